/- A region that draws its order, by an invariant: reads that stand in every world of S are taken first; of the others up to m whichever may come up keeps the invariant; then the tail. My own, over any program. -/
import Derived.Test.YtfeeajodgcdflaaMixo
namespace Go.Troupe
open Go

def invB (md : Region.Mode) (ops : Array Oper) (m : Nat) : Nat → Array Bool → Bool
  | 0, listed => Region.seqB md ops (ops.size - m) m listed && (List.range m).all (fun k => listed.getD k false)
  | f + 1, listed => !(Region.ready md ops listed).isEmpty && (Region.ready md ops listed).all (fun i => decide (i < m) && invB md ops m f (listed.setIfInBounds i true))
def headI (md : Region.Mode) (ops : Array Oper) (m f : Nat) : List Nat → Array Bool → Bool
  | [], listed => invB md ops m f listed
  | k :: ks, listed => decide (k < m) && (Region.ready md ops listed).contains k && Region.free md ops listed k && headI md ops m f ks (listed.setIfInBounds k true)
def invOK (md : Region.Mode) (ops : Array Oper) (o1 : List Nat) (m : Nat) : Bool :=
  Region.noSelect ops && decide (m < ops.size) && Region.sinkB md ops m && Region.chainB md ops m && headI md ops m (m - o1.length) o1 (Array.replicate ops.size false) && decide (o1.length ≤ m)
def setAll : List Nat → Array Bool → Array Bool
  | [], l => l
  | k :: ks, l => setAll ks (l.setIfInBounds k true)

section
variable {P : Program} {S : World → Prop} {Q : Exit → Act → World → Prop} {K : Act → World → Prop} {md : Region.Mode}

theorem wpAnyN_inv {l : List Oper} {m : Nat} {I : Array Bool → Act → World → Prop} (hS : ∀ L a w, I L a w → S w)
    (hstep : ∀ L a w i, L.size = l.toArray.size → I L a w → i ∈ Region.ready md l.toArray L → i < m → wpOp P l.toArray (Exit.then K Q) i (I (L.setIfInBounds i true)) a w)
    (hend : ∀ L a w, (∀ k, k < m → L.getD k false = true) → I L a w → wpList P l.toArray (Exit.then K Q) (l.drop m) a w) :
    ∀ (f : Nat) (L : Array Bool) (a : Act) (w : World), L.size = l.toArray.size → invB md l.toArray m f L = true → I L a w → wpAnyN P md l.toArray (Exit.then K Q) S m (LL P md l.toArray (Exit.then K Q) m) f L a w
  | 0, L, a, w, hsz, hB, h => by
    simp only [invB, Bool.and_eq_true, List.all_eq_true, List.mem_range] at hB
    exact ⟨hB.1, by simpa using hend L a w (fun k hk => hB.2 k hk) h⟩
  | f + 1, L, a, w, hsz, hB, h => by
    simp only [invB, Bool.and_eq_true, List.all_eq_true, Bool.not_eq_true', decide_eq_true_eq] at hB
    refine ⟨fun e => by rw [e] at hB; simp at hB, fun i hi => ?_⟩
    obtain ⟨him, hB'⟩ := hB.2 i hi
    exact ⟨him, wpOp_mono (fun a' w' h' => ⟨hS _ _ _ h', wpAnyN_inv hS hstep hend f _ a' w' (by simpa using hsz) hB' h'⟩) (hstep L a w i hsz h hi him)⟩

theorem wpAnyN_headI {l : List Oper} {m f : Nat} {I : Array Bool → Act → World → Prop} (hsel : Region.noSelect l.toArray = true) (hs : Region.sinkB md l.toArray m = true) (hc : Region.chainB md l.toArray m = true) (hn : m < l.toArray.size)
    (hQ : ∀ c (a : Act) (d : Option Tmp) v w, Q (.panic c) (a.put d v) w → Q (.panic c) a w) (hS : ∀ L a w, I L a w → S w)
    (hstep : ∀ L a w i, L.size = l.toArray.size → I L a w → i ∈ Region.ready md l.toArray L → i < m → wpOp P l.toArray (Exit.then K Q) i (I (L.setIfInBounds i true)) a w)
    (hend : ∀ L a w, (∀ k, k < m → L.getD k false = true) → I L a w → wpList P l.toArray (Exit.then K Q) (l.drop m) a w) (w : World) (hSw : S w) :
    ∀ (ks : List Nat) (L : Array Bool) (a : Act), L.size = l.toArray.size → HeadInv md l.toArray m L → headI md l.toArray m f ks L = true →
      wpReads P l.toArray S (fun a' => I (setAll ks L) a' w) (pick l ks) a → wpAnyN P md l.toArray (Exit.then K Q) S m (LL P md l.toArray (Exit.then K Q) m) (ks.length + f) L a w
  | [], L, a, hsz, inv, hB, h => by
    rw [List.length_nil, Nat.zero_add]
    exact wpAnyN_inv hS hstep hend f L a w hsz hB h
  | k :: ks, L, a, hsz, inv, hB, h => by
    simp only [headI, Bool.and_eq_true, decide_eq_true_eq] at hB
    obtain ⟨⟨⟨hkm, hr⟩, hf⟩, hB'⟩ := hB
    have hk : k < l.length := by simp at hn; omega
    have h1 : l[k]? = some l[k] := List.getElem?_eq_getElem hk
    have h0 : l.toArray[k]? = some l[k] := by simp [hk]
    simp only [pick, h1, setAll] at h
    generalize l[k] = o at *
    have hr' : k ∈ Region.ready md l.toArray L := by simpa using hr
    obtain ⟨v, hy, hK⟩ : ∃ v, YieldsIf P l.toArray S o v a ∧ wpReads P l.toArray S (fun a' => I (setAll ks (L.setIfInBounds k true)) a' w) (pick l ks) (a.put o.dst v) := by
      unfold wpReads at h
      by_cases hw : Region.wanted o (yielded l.toArray a.tmps) = true
      · rw [if_pos hw] at h
        obtain ⟨v, h1, h2⟩ := h
        exact ⟨v, .inl ⟨hw, fun w hw => readAt_run (h1 w hw)⟩, h2⟩
      · rw [if_neg hw] at h
        exact ⟨undef, .inr ⟨by simpa using hw, rfl⟩, h⟩
    have := wpAnyN_first (S := S) (L := LL P md l.toArray (Exit.then K Q) m) h0 (Region.noSelect_spec hsel) hs hc hn hkm (Q := Exit.then K Q) (fun c a d v w h => hQ c a d v w h) (fun listed' a' w' hL => seqB_ready hL.1)
      (ks.length + f) L a w inv (Region.free_spec h0 hf) hr' hy hSw
      (wpAnyN_headI hsel hs hc hn hQ hS hstep hend w hSw ks _ _ (by simpa using hsz) (inv.set hr' hkm) hB' hK)
    rw [List.length_cons, show ks.length + 1 + f = ks.length + f + 1 by omega]
    exact this

/-- The region by an invariant. -/
theorem region_inv {id : Nat} {a : Act} {w : World} {l : List Oper} {I : Array Bool → Act → World → Prop} (o1 : List Nat) (m : Nat) (hm : P.follows .mixedOrders = true) (hB : invOK .any l.toArray o1 m = true)
    (hQ : ∀ c (a : Act) (d : Option Tmp) v w, Q (.panic c) (a.put d v) w → Q (.panic c) a w) (hS : ∀ L a w, I L a w → S w)
    (hstep : ∀ L a w i, L.size = l.toArray.size → I L a w → i ∈ Region.ready .any l.toArray L → i < m → wpOp P l.toArray (Exit.then (Q .normal) Q) i (I (L.setIfInBounds i true)) a w)
    (hend : ∀ L a w, (∀ k, k < m → L.getD k false = true) → I L a w → wpList P l.toArray (Exit.then (Q .normal) Q) (l.drop m) a w)
    (h : ∀ w', w'.heap = w.heap → w'.os = w.os → w'.tape = w.tape → w'.output = w.output → S w' ∧ wpReads P l.toArray S (fun a' => I (setAll o1 (Array.replicate l.toArray.size false)) a' w') (pick l o1) a) : (Code.region id l.toArray true).wp P Q a w := by
  simp only [invOK, Bool.and_eq_true, decide_eq_true_eq] at hB
  obtain ⟨⟨⟨⟨⟨hsel, hn⟩, hs⟩, hc⟩, hlex⟩, hle⟩ := hB
  obtain ⟨hSw, hh⟩ := h { w with drawn := w.drawn + 1 } rfl rfl rfl rfl
  have inv0 : HeadInv .any l.toArray m (Array.replicate l.toArray.size false) :=
    ⟨by simp, fun j oj _ hl => (by rw [getD_replicate_false] at hl; cases hl), fun t _ ht => getD_in (by simpa using ht) (getD_replicate_false _ _)⟩
  have H := wpAnyN_headI (P := P) (S := S) (Q := Q) (K := Q .normal) (md := .any) (l := l) (f := m - o1.length) hsel hs hc hn hQ hS hstep hend { w with drawn := w.drawn + 1 } hSw o1 _ a (by simp) inv0 hlex hh
  have := wpAny_of_N (Q := Exit.then (Q .normal) Q) (g := l.toArray.size - m) (fun listed a' w' hL => by
    have hdl : (l.drop m).length = l.toArray.size - m := by simp
    have := wpAny_of_seq (md := .any) (ops := l.toArray) (Q' := Exit.then (Q .normal) Q) (l.drop m) m listed a' w' (fun j => by simp [List.getElem?_drop]) (by rw [hdl]; exact hL.1) (by simpa using hL.2)
    rwa [hdl] at this) _ _ _ _ H
  rw [show o1.length + (m - o1.length) + (l.toArray.size - m) = l.toArray.size by omega] at this
  rw [exit_then_self] at this
  exact wp_region_any hm this
/-- What has been done, behind one more. -/
theorem getD_done (L : Array Bool) (i k : Nat) (hi : i < L.size) : (L.setIfInBounds i true).getD k false = (if k = i then true else L.getD k false) := by
  by_cases h : k = i
  · subst h; simp [hi]
  · rw [if_neg h]; exact getD_set_ne false (fun e => h e.symm)
end
end Go.Troupe
