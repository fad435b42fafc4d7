/- A region that draws its order: reads, each of whose values stands whatever the others do (S), in whatever order; behind them, one at a time, what makes memory; the last ones write what was read. My own, over any program. -/
import Derived.StillTail
import Derived.OrdersHeld
import Derived.StillTactics
import Derived.StillTailTactics
namespace Go.Troupe
open Go

section
variable {P : Program} {ops : Array Oper} {md : Region.Mode} {S : World → Prop} {Q : Exit → Act → World → Prop}

def wpAnyN (P : Program) (md : Region.Mode) (ops : Array Oper) (Q : Exit → Act → World → Prop) (S : World → Prop) (n : Nat) (L : Array Bool → Act → World → Prop) : Nat → Array Bool → Act → World → Prop
  | 0, listed, a, w => L listed a w
  | f + 1, listed, a, w =>
    Region.ready md ops listed ≠ [] ∧ ∀ i ∈ Region.ready md ops listed, i < n ∧ wpOp P ops Q i (fun a' w' => S w' ∧ wpAnyN P md ops Q S n L f (listed.setIfInBounds i true) a' w') a w

theorem wpAny_of_N {n g : Nat} {L : Array Bool → Act → World → Prop} (hL : ∀ listed a w, L listed a w → wpAny P md ops Q g listed a w) :
    ∀ (f : Nat) (listed : Array Bool) (a : Act) (w : World), wpAnyN P md ops Q S n L f listed a w → wpAny P md ops Q (f + g) listed a w
  | 0, listed, a, w, h => by rw [Nat.zero_add]; exact hL _ _ _ h
  | f + 1, listed, a, w, h => by
    rw [show f + 1 + g = (f + g) + 1 by omega]
    exact ⟨fun h0 => absurd h0 h.1, fun i hi => wpOp_mono (fun a' w' h' => wpAny_of_N hL f _ a' w' h'.2) (h.2 i hi).2⟩

theorem wpAnyN_first {n i : Nat} {oi : Oper} {v : Value} {L : Array Bool → Act → World → Prop} (hi : ops[i]? = some oi) (hsel : ∀ (j : Nat) (o : Oper) cs b, ops[j]? = some o → o.op ≠ .select cs b)
    (hs : Region.sinkB md ops n = true) (hc : Region.chainB md ops n = true) (hn : n < ops.size) (hin : i < n)
    (hQ : ∀ c (a : Act) (d : Option Tmp) v w, Q (.panic c) (a.put d v) w → Q (.panic c) a w)
    (hdone : ∀ listed a w, L listed a w → ∀ j ∈ Region.ready md ops listed, n ≤ j) :
    ∀ (f : Nat) (listed : Array Bool) (a : Act) (w : World), HeadInv md ops n listed →
      (∀ j oj, ops[j]? = some oj → j ≠ i → listed.getD j true = false → (∀ e ∈ oj.after, Region.binds md e = true → e.on ≠ i) → oi.apart ops oj = true) →
      i ∈ Region.ready md ops listed → YieldsIf P ops S oi v a → S w →
      wpAnyN P md ops Q S n L f (listed.setIfInBounds i true) (a.put oi.dst v) w → wpAnyN P md ops Q S n L (f + 1) listed a w := by
  intro f
  induction f with
  | zero =>
    intro listed a w inv _ hr hy hS H
    have hun := (mem_ready.1 hr).1
    refine ⟨fun h => (by rw [h] at hr; cases hr), fun j hj => ?_⟩
    have hjn : j < n := by
      rcases Nat.lt_or_ge j n with h | h
      · exact h
      · exact absurd hj (tail_waits hs hc hn inv _ i rfl hin hun j h)
    refine ⟨hjn, ?_⟩
    by_cases hji : j = i
    · subst hji; exact hy.wpOp hi hS ⟨hS, H⟩
    · have := hdone _ _ _ H j (ready_mono hj hji)
      omega
  | succ f ih =>
    intro listed a w inv hfree hr hy hS H
    have hun := (mem_ready.1 hr).1
    refine ⟨fun h => (by rw [h] at hr; cases hr), fun j hj => ?_⟩
    have hjn : j < n := by
      rcases Nat.lt_or_ge j n with h | h
      · exact h
      · exact absurd hj (tail_waits hs hc hn inv _ i rfl hin hun j h)
    refine ⟨hjn, ?_⟩
    by_cases hji : j = i
    · subst hji; exact hy.wpOp hi hS ⟨hS, H⟩
    · have h1 := (H.2 j (ready_mono hj hji)).2
      obtain ⟨hjun, oj, hoj, hall⟩ := mem_ready.1 hj
      have hnot : ∀ e ∈ oj.after, Region.binds md e = true → e.on ≠ i := fun e he hb heq => by
        have h1 := hall e he hb
        rw [heq, getD_both hun] at h1
        cases h1
      have h2 := wpOp_putIf hoj (hfree j oj hoj hji hjun hnot) (fun cs b => hsel i oi cs b hi) (fun cs b => hsel j oj cs b hoj) (fun c a w h => hQ c a _ _ w h) hy h1
      have hfree' : ∀ k ok, ops[k]? = some ok → k ≠ i → (listed.setIfInBounds j true).getD k true = false →
          (∀ e ∈ ok.after, Region.binds md e = true → e.on ≠ i) → oi.apart ops ok = true := fun k ok hk hki hun hno => by
        refine hfree k ok hk hki ?_ hno
        by_cases hjk : j = k
        · subst hjk; exact hjun
        · rw [getD_set_ne true hjk] at hun; exact hun
      refine wpOp_mono (fun a' w' h3 => ⟨h3.2.1, ih (listed.setIfInBounds j true) a' w' (inv.set hj hjn) hfree' (ready_mono hr (Ne.symm hji)) h3.1 h3.2.1 ?_⟩) h2
      rw [Array.setIfInBounds_comm _ _ hji]
      exact h3.2.2

/-- o yields v at the world, and does nothing else. -/
def readUpon (w : World) (v : Value) : Result Next → Prop
  | .ok (.value u) w' => w' = w ∧ u = v
  | _ => False
def readAt (P : Program) (o : Oper) (a : Act) (w : World) (v : Value) : Prop := readUpon w v ((execOp a.eval o).run P w)
theorem readAt_run {o : Oper} {a : Act} {w : World} {v : Value} (h : readAt P o a w v) : (execOp a.eval o).run P w = .ok (.value v) w := by
  unfold readAt at h
  generalize (execOp a.eval o).run P w = r at *
  cases r with
  | ok n w' => cases n <;> simp only [readUpon] at h; obtain ⟨rfl, rfl⟩ := h; rfl
  | halt x w' => simp only [readUpon] at h
def reads (P : Program) (o : Oper) (a : Act) (S : World → Prop) (next : Act → Prop) : Prop := ∃ v, (∀ w, S w → readAt P o a w v) ∧ next (a.put o.dst v)
/-- The reads, in the order of the text. -/
def wpReads (P : Program) (ops : Array Oper) (S : World → Prop) (K : Act → Prop) : List Oper → Act → Prop
  | [], a => K a
  | o :: rest, a => if Region.wanted o (yielded ops a.tmps) then reads P o a S (wpReads P ops S K rest) else wpReads P ops S K rest (a.put o.dst undef)
theorem wpReads_nil {K : Act → Prop} {a : Act} (h : K a) : wpReads P ops S K [] a := h
theorem wpReads_step {K : Act → Prop} {a : Act} {o : Oper} {rest : List Oper}
    (h : ∀ K' : Act → Prop, (∀ a, wpReads P ops S K rest a → K' a) → if Region.wanted o (yielded ops a.tmps) then reads P o a S K' else K' (a.put o.dst undef)) : wpReads P ops S K (o :: rest) a :=
  h _ (fun _ h => h)

/-- Each of the operations, one at a time, S anew behind each. -/
def wpMid (P : Program) (ops : Array Oper) (Q : Exit → Act → World → Prop) (S : World → Prop) (K : Act → World → Prop) : List Oper → Act → World → Prop
  | [], a, w => K a w
  | o :: rest, a, w => wpList P ops (Exit.then (fun a w => S w ∧ wpMid P ops Q S K rest a w) Q) [o] a w

def midB (md : Region.Mode) (ops : Array Oper) (g m : Nat) : Nat → Nat → Array Bool → Bool
  | 0, k, listed => Region.seqB md ops g k listed && decide (m ≤ k)
  | f + 1, k, listed => decide (Region.ready md ops listed = [k]) && decide (k < m) && midB md ops g m f (k + 1) (listed.setIfInBounds k true)
def headB (md : Region.Mode) (ops : Array Oper) (g m mid : Nat) : Nat → Nat → Array Bool → Bool
  | 0, k, listed => midB md ops g m mid k listed
  | f + 1, k, listed => decide (k < m) && (Region.ready md ops listed).contains k && Region.free md ops listed k && headB md ops g m mid f (k + 1) (listed.setIfInBounds k true)
/-- n1 reads, then one at a time up to m, whence the tail. -/
def mixB (md : Region.Mode) (ops : Array Oper) (n1 m : Nat) : Bool :=
  Region.noSelect ops && decide (m < ops.size) && decide (n1 ≤ m) && Region.sinkB md ops m && Region.chainB md ops m && headB md ops (ops.size - m) m (m - n1) n1 0 (Array.replicate ops.size false)

def LL (P : Program) (md : Region.Mode) (ops : Array Oper) (Q : Exit → Act → World → Prop) (m : Nat) (listed : Array Bool) (a : Act) (w : World) : Prop :=
  Region.seqB md ops (ops.size - m) m listed = true ∧ wpList P ops Q (ops.toList.drop m) a w

theorem Oper_wp_then {X : Act → World → Prop} {o : Oper} {a : Act} {w : World} (h : o.wp P a w (wpList P ops (Exit.then X Q) []) (Exit.then X Q)) : o.wp P a w X Q := by
  unfold Oper.wp at *
  generalize (execOp a.eval o).run P w = r at *
  cases r with
  | ok n w' =>
    cases n <;> simp only [Oper.upon] at h ⊢
    case value => exact h
    case skip => exact h
    case defer => exact h
    case enter => exact h.mono fun e w'' he => by cases e <;> exact he
    case row => exact h
  | halt x w' => cases x <;> simp only [Oper.upon] at h ⊢; exact h
theorem wpOp_of_one {X : Act → World → Prop} {i : Nat} {o : Oper} {a : Act} {w : World} (h0 : ops[i]? = some o) (h : wpList P ops (Exit.then X Q) [o] a w) : wpOp P ops Q i X a w := by
  unfold wpList at h
  unfold wpOp
  simp only [h0]
  split
  · rename_i hw
    rw [if_pos hw] at h
    rcases h with h | h
    · exact .inl (Oper_wp_then h)
    · exact .inr h
  · rename_i hw
    rw [if_neg hw] at h
    exact h
theorem wpAnyN_mid {m : Nat} {K : Act → World → Prop} : ∀ (l : List Oper) (k : Nat) (listed : Array Bool) (a : Act) (w : World), (∀ j, j < l.length → l[j]? = ops[k + j]?) → k + l.length = m →
    midB md ops (ops.size - m) m l.length k listed = true → wpMid P ops (Exit.then K Q) S (fun a w => wpList P ops (Exit.then K Q) (ops.toList.drop m) a w) l a w → wpAnyN P md ops (Exit.then K Q) S m (LL P md ops (Exit.then K Q) m) l.length listed a w
  | [], k, listed, a, w, _, hk, hB, h => by
    have : k = m := by simpa using hk
    subst this
    simp only [List.length_nil, midB, Bool.and_eq_true] at hB
    exact ⟨hB.1, h⟩
  | o :: l, k, listed, a, w, hl, hk, hB, h => by
    have h0 : ops[k]? = some o := by simpa using (hl 0 (by simp)).symm
    simp only [List.length_cons, midB, Bool.and_eq_true, decide_eq_true_eq] at hB
    obtain ⟨⟨hr, hkm⟩, hB'⟩ := hB
    refine ⟨fun h1 => (by rw [hr] at h1; cases h1), fun i hi => ?_⟩
    rw [hr] at hi
    have hik : i = k := by simpa using hi
    subst hik
    refine ⟨hkm, ?_⟩
    have hw : wpOp P ops (Exit.then K Q) i (fun a w => S w ∧ wpMid P ops (Exit.then K Q) S (fun a w => wpList P ops (Exit.then K Q) (ops.toList.drop m) a w) l a w) a w := by
      exact wpOp_of_one h0 h
    exact wpOp_mono (fun a' w' h' => ⟨h'.1, wpAnyN_mid l (i + 1) _ a' w' (fun j hj => by have := hl (j + 1) (by simp; omega); simpa [Nat.add_assoc, Nat.add_comm 1 j] using this) (by simp only [List.length_cons] at hk; omega) hB' h'.2⟩) hw
theorem midB_ready {g m : Nat} : ∀ (f k : Nat) (listed : Array Bool), k ≤ m → midB md ops g m f k listed = true → ∀ j ∈ Region.ready md ops listed, k ≤ j
  | 0, k, listed, _, h, j, hj => by
    simp only [midB, Bool.and_eq_true] at h
    exact seqB_ready h.1 j hj
  | f + 1, k, listed, _, h, j, hj => by
    simp only [midB, Bool.and_eq_true, decide_eq_true_eq] at h
    rw [h.1.1] at hj
    have : j = k := by simpa using hj
    omega

theorem wpAnyN_head {m n1 : Nat} {K : Act → World → Prop} (hsel : Region.noSelect ops = true) (hs : Region.sinkB md ops m = true) (hc : Region.chainB md ops m = true) (hn : m < ops.size) (hn1 : n1 ≤ m)
    (hQ : ∀ c (a : Act) (d : Option Tmp) v w, Q (.panic c) (a.put d v) w → Q (.panic c) a w) (mid : List Oper) (hmid : ∀ j, j < mid.length → mid[j]? = ops[n1 + j]?) (hml : n1 + mid.length = m) (w : World) (hS : S w) :
    ∀ (l : List Oper) (k : Nat) (listed : Array Bool) (a : Act), (∀ j, j < l.length → l[j]? = ops[k + j]?) → k + l.length = n1 → HeadInv md ops m listed →
    headB md ops (ops.size - m) m (m - n1) l.length k listed = true →
    wpReads P ops S (fun a' => wpMid P ops (Exit.then K Q) S (fun a w => wpList P ops (Exit.then K Q) (ops.toList.drop m) a w) mid a' w) l a →
    wpAnyN P md ops (Exit.then K Q) S m (LL P md ops (Exit.then K Q) m) (l.length + mid.length) listed a w
  | [], k, listed, a, _, hk, inv, hB, h => by
    have hkn : k = n1 := by simpa using hk
    subst hkn
    have hmm : m - k = mid.length := by omega
    simp only [List.length_nil, headB, hmm] at hB
    rw [List.length_nil, Nat.zero_add]
    exact wpAnyN_mid mid k listed a w hmid hml hB h
  | o :: l, k, listed, a, hl, hk, inv, hB, h => by
    have h0 : ops[k]? = some o := by simpa using (hl 0 (by simp)).symm
    simp only [List.length_cons, headB, Bool.and_eq_true, decide_eq_true_eq] at hB
    obtain ⟨⟨⟨hkm, hr⟩, hf⟩, hB'⟩ := hB
    have hr' : k ∈ Region.ready md ops listed := by simpa using hr
    obtain ⟨v, hy, hK⟩ : ∃ v, YieldsIf P ops S o v a ∧ wpReads P ops S (fun a' => wpMid P ops (Exit.then K Q) S (fun a w => wpList P ops (Exit.then K Q) (ops.toList.drop m) a w) mid a' w) l (a.put o.dst v) := by
      unfold wpReads at h
      by_cases hw : Region.wanted o (yielded ops a.tmps) = true
      · rw [if_pos hw] at h
        obtain ⟨v, h1, h2⟩ := h
        exact ⟨v, .inl ⟨hw, fun w hw => readAt_run (h1 w hw)⟩, h2⟩
      · rw [if_neg hw] at h
        exact ⟨undef, .inr ⟨by simpa using hw, rfl⟩, h⟩
    have := wpAnyN_first (S := S) (L := LL P md ops (Exit.then K Q) m) h0 (Region.noSelect_spec hsel) hs hc hn hkm (Q := Exit.then K Q) (fun c a d v w h => hQ c a d v w h) (fun listed' a' w' hL => seqB_ready hL.1)
      (l.length + mid.length) listed a w inv (Region.free_spec h0 hf) hr' hy hS
      (wpAnyN_head hsel hs hc hn hn1 hQ mid hmid hml w hS l (k + 1) _ _ (fun j hj => by have := hl (j + 1) (by simp; omega); simpa [Nat.add_assoc, Nat.add_comm 1 j] using this) (by simp only [List.length_cons] at hk; omega) (inv.set hr' hkm) hB' hK)
    rw [List.length_cons, show l.length + 1 + mid.length = l.length + mid.length + 1 by omega]
    exact this

/-- The region: n1 reads, whose values stand in every world of S; then one at a time up to m, S anew behind each; then the tail. -/
theorem region_mix {id : Nat} {K : Act → World → Prop} {a : Act} {w : World} {l : List Oper} (n1 m : Nat) (hm : P.follows .mixedOrders = true) (hB : mixB .any l.toArray n1 m = true)
    (hQ : ∀ c (a : Act) (d : Option Tmp) v w, Q (.panic c) (a.put d v) w → Q (.panic c) a w)
    (h : ∀ w', w'.heap = w.heap → w'.os = w.os → w'.tape = w.tape → w'.output = w.output → S w' ∧
      wpReads P l.toArray S (fun a' => wpMid P l.toArray (Exit.then K Q) S (fun a w => wpList P l.toArray (Exit.then K Q) (l.drop m) a w) ((l.take m).drop n1) a' w') (l.take n1) a) : (Code.region id l.toArray true).wp P (Exit.then K Q) a w := by
  simp only [mixB, Bool.and_eq_true, decide_eq_true_eq] at hB
  obtain ⟨⟨⟨⟨⟨hsel, hn⟩, hn1⟩, hs⟩, hc⟩, hlex⟩ := hB
  have hn' : m < l.length := by simpa using hn
  obtain ⟨hS, hh⟩ := h { w with drawn := w.drawn + 1 } rfl rfl rfl rfl
  have htl : (l.take n1).length = n1 := by simp; omega
  have hml : ((l.take m).drop n1).length = m - n1 := by simp; omega
  have inv0 : HeadInv .any l.toArray m (Array.replicate l.toArray.size false) :=
    ⟨by simp, fun j oj _ hl => (by rw [getD_replicate_false] at hl; cases hl), fun t _ ht => getD_in (by simpa using ht) (getD_replicate_false _ _)⟩
  have H := wpAnyN_head (P := P) (S := S) (Q := Q) (K := K) (md := .any) (ops := l.toArray) hsel hs hc hn hn1 hQ ((l.take m).drop n1) (fun j hj => by
      rw [hml] at hj
      rw [List.getElem?_drop, List.getElem?_take, if_pos (by omega)]; simp) (by rw [hml]; omega) { w with drawn := w.drawn + 1 } hS (l.take n1) 0 _ a (fun j hj => by
      have hj' : j < n1 := by rw [htl] at hj; exact hj
      simp [hj']) (by simpa using htl) inv0 (by rw [htl]; exact hlex) (by simpa using hh)
  refine wp_region_any hm ?_
  have := wpAny_of_N (Q := Exit.then K Q) (g := l.toArray.size - m) (fun listed a' w' hL => by
    have hdl : (l.drop m).length = l.toArray.size - m := by simp
    have := wpAny_of_seq (md := .any) (ops := l.toArray) (Q' := Exit.then K Q) (l.drop m) m listed a' w' (fun j => by simp [List.getElem?_drop]) (by rw [hdl]; exact hL.1) (by simpa using hL.2)
    rwa [hdl] at this) _ _ _ _ H
  rw [htl, hml, show n1 + (m - n1) + (l.toArray.size - m) = l.toArray.size by simp; omega] at this
  exact this
end
/-- A world of the class, as one letter. -/
structure SW (S : World → Prop) where
  w : World
  h : S w
def Cls (S : World → Prop) : World → Prop := fun w' => ∃ x : SW S, w' = x.w
theorem Cls.of {S : World → Prop} {w : World} (h : S w) : Cls S w := ⟨⟨w, h⟩, rfl⟩
theorem Cls.out {S : World → Prop} {w : World} (h : Cls S w) : S w := by obtain ⟨x, rfl⟩ := h; exact x.h
end Go.Troupe
