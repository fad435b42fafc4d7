/- A region that draws its order, by a plan: reads that stand in every world of S are taken first whenever they may come up; where one or two others may come up, each way is walked; then the tail. In a plain walk, and in a round of a range over a function. My own, over any program. -/
import Derived.Test.YtkjjhndccelbcaaMixo
namespace Go.Troupe
open Go

inductive Plan where
  | tail
  | read (k : Nat) (p : Plan)
  | one (k : Nat) (p : Plan)
  | two (k1 : Nat) (p1 : Plan) (k2 : Nat) (p2 : Plan)

def Plan.check (md : Region.Mode) (ops : Array Oper) (m : Nat) : Plan → Nat → Array Bool → Bool
  | .tail, 0, listed => Region.seqB md ops (ops.size - m) m listed
  | .read k p, f + 1, listed => decide (k < m) && (Region.ready md ops listed).contains k && Region.free md ops listed k && p.check md ops m f (listed.setIfInBounds k true)
  | .one k p, f + 1, listed => decide (Region.ready md ops listed = [k]) && decide (k < m) && p.check md ops m f (listed.setIfInBounds k true)
  | .two k1 p1 k2 p2, f + 1, listed => decide (Region.ready md ops listed = [k1, k2]) && decide (k1 < m) && decide (k2 < m) && p1.check md ops m f (listed.setIfInBounds k1 true) && p2.check md ops m f (listed.setIfInBounds k2 true)
  | _, _, _ => false
def planB (md : Region.Mode) (ops : Array Oper) (p : Plan) (m : Nat) : Bool :=
  Region.noSelect ops && decide (m < ops.size) && Region.sinkB md ops m && Region.chainB md ops m && p.check md ops m m (Array.replicate ops.size false)

section
variable {P : Program} {S : World → Prop} {Q : Exit → Act → World → Prop} {K : Act → World → Prop} {md : Region.Mode}

def wpPlan (P : Program) (l : List Oper) (S : World → Prop) (K : Act → World → Prop) (Q : Exit → Act → World → Prop) (m : Nat) : Plan → Act → World → Prop
  | .tail, a, w => wpList P l.toArray (Exit.then K Q) (l.drop m) a w
  | .read k p, a, w => match l[k]? with
    | some o => if Region.wanted o (yielded l.toArray a.tmps) then reads P o a S (fun a' => wpPlan P l S K Q m p a' w) else wpPlan P l S K Q m p (a.put o.dst undef) w
    | none => False
  | .one k p, a, w => match l[k]? with
    | some o => wpList P l.toArray (Exit.then (fun a w => S w ∧ wpPlan P l S K Q m p a w) (Exit.then K Q)) [o] a w
    | none => False
  | .two k1 p1 k2 p2, a, w => (match l[k1]? with
    | some o => wpList P l.toArray (Exit.then (fun a w => S w ∧ wpPlan P l S K Q m p1 a w) (Exit.then K Q)) [o] a w
    | none => False) ∧ (match l[k2]? with
    | some o => wpList P l.toArray (Exit.then (fun a w => S w ∧ wpPlan P l S K Q m p2 a w) (Exit.then K Q)) [o] a w
    | none => False)

theorem wpPlan_tail {l : List Oper} {m : Nat} {a : Act} {w : World} (h : wpList P l.toArray (Exit.then K Q) (l.drop m) a w) : wpPlan P l S K Q m .tail a w := h
theorem wpPlan_read {l : List Oper} {m k : Nat} {p : Plan} {o : Oper} {a : Act} {w : World} (h0 : l[k]? = some o)
    (h : ∀ K' : Act → Prop, (∀ a, wpPlan P l S K Q m p a w → K' a) → if Region.wanted o (yielded l.toArray a.tmps) then reads P o a S K' else K' (a.put o.dst undef)) : wpPlan P l S K Q m (.read k p) a w := by
  simp only [wpPlan, h0]
  exact h _ (fun _ h => h)
theorem wpPlan_one {l : List Oper} {m k : Nat} {p : Plan} {o : Oper} {a : Act} {w : World} (h0 : l[k]? = some o)
    (h : wpList P l.toArray (Exit.then (fun a w => S w ∧ wpPlan P l S K Q m p a w) (Exit.then K Q)) [o] a w) : wpPlan P l S K Q m (.one k p) a w := by
  simp only [wpPlan, h0]
  exact h
theorem wpPlan_two {l : List Oper} {m k1 k2 : Nat} {p1 p2 : Plan} {q1 q2 : Oper} {a : Act} {w : World} (h1 : l[k1]? = some q1) (h2 : l[k2]? = some q2)
    (g1 : wpList P l.toArray (Exit.then (fun a w => S w ∧ wpPlan P l S K Q m p1 a w) (Exit.then K Q)) [q1] a w) (g2 : wpList P l.toArray (Exit.then (fun a w => S w ∧ wpPlan P l S K Q m p2 a w) (Exit.then K Q)) [q2] a w) : wpPlan P l S K Q m (.two k1 p1 k2 p2) a w := by
  simp only [wpPlan, h1, h2]
  exact ⟨g1, g2⟩

theorem wpAnyN_plan {l : List Oper} {m : Nat} (hsel : Region.noSelect l.toArray = true) (hs : Region.sinkB md l.toArray m = true) (hc : Region.chainB md l.toArray m = true) (hn : m < l.toArray.size)
    (hQ : ∀ c (a : Act) (d : Option Tmp) v w, Q (.panic c) (a.put d v) w → Q (.panic c) a w) :
    ∀ (p : Plan) (f : Nat) (listed : Array Bool) (a : Act) (w : World), HeadInv md l.toArray m listed → S w → p.check md l.toArray m f listed = true → wpPlan P l S K Q m p a w →
    wpAnyN P md l.toArray (Exit.then K Q) S m (LL P md l.toArray (Exit.then K Q) m) f listed a w
  | .tail, 0, listed, a, w, inv, hS, hB, h => ⟨hB, h⟩
  | .tail, f + 1, listed, a, w, inv, hS, hB, h => by simp [Plan.check] at hB
  | .read k p, 0, listed, a, w, inv, hS, hB, h => by simp [Plan.check] at hB
  | .one k p, 0, listed, a, w, inv, hS, hB, h => by simp [Plan.check] at hB
  | .two _ _ _ _, 0, listed, a, w, inv, hS, hB, h => by simp [Plan.check] at hB
  | .read k p, f + 1, listed, a, w, inv, hS, hB, h => by
    simp only [Plan.check, Bool.and_eq_true, decide_eq_true_eq] at hB
    obtain ⟨⟨⟨hkm, hr⟩, hf⟩, hB'⟩ := hB
    have hk : k < l.length := by simp at hn; omega
    have h1 : l[k]? = some l[k] := List.getElem?_eq_getElem hk
    have h0 : l.toArray[k]? = some l[k] := by simp [hk]
    simp only [wpPlan, h1] at h
    generalize l[k] = o at *
    have hr' : k ∈ Region.ready md l.toArray listed := by simpa using hr
    obtain ⟨v, hy, hK⟩ : ∃ v, YieldsIf P l.toArray S o v a ∧ wpPlan P l S K Q m p (a.put o.dst v) w := by
      by_cases hw : Region.wanted o (yielded l.toArray a.tmps) = true
      · rw [if_pos hw] at h
        obtain ⟨v, h1, h2⟩ := h
        exact ⟨v, .inl ⟨hw, fun w hw => readAt_run (h1 w hw)⟩, h2⟩
      · rw [if_neg hw] at h
        exact ⟨undef, .inr ⟨by simpa using hw, rfl⟩, h⟩
    exact wpAnyN_first (S := S) (L := LL P md l.toArray (Exit.then K Q) m) h0 (Region.noSelect_spec hsel) hs hc hn hkm (Q := Exit.then K Q) (fun c a d v w h => hQ c a d v w h) (fun listed' a' w' hL => seqB_ready hL.1)
      f listed a w inv (Region.free_spec h0 hf) hr' hy hS
      (wpAnyN_plan hsel hs hc hn hQ p f _ _ w (inv.set hr' hkm) hS hB' hK)
  | .one k p, f + 1, listed, a, w, inv, hS, hB, h => by
    simp only [Plan.check, Bool.and_eq_true, decide_eq_true_eq] at hB
    obtain ⟨⟨hr, hkm⟩, hB'⟩ := hB
    have hk : k < l.length := by simp at hn; omega
    have h1 : l[k]? = some l[k] := List.getElem?_eq_getElem hk
    have h0 : l.toArray[k]? = some l[k] := by simp [hk]
    simp only [wpPlan, h1] at h
    refine ⟨fun h1 => (by rw [hr] at h1; cases h1), fun i hi => ?_⟩
    have hi2 := hi
    rw [hr] at hi
    obtain rfl : i = k := by simpa using hi
    exact ⟨hkm, wpOp_mono (fun a' w' h' => ⟨h'.1, wpAnyN_plan hsel hs hc hn hQ p f _ a' w' (inv.set hi2 hkm) h'.1 hB' h'.2⟩) (wpOp_of_one h0 h)⟩
  | .two k1 p1 k2 p2, f + 1, listed, a, w, inv, hS, hB, h => by
    simp only [Plan.check, Bool.and_eq_true, decide_eq_true_eq] at hB
    obtain ⟨⟨⟨⟨hr, hk1⟩, hk2⟩, hB1⟩, hB2⟩ := hB
    have hl1 : k1 < l.length := by simp at hn; omega
    have hl2 : k2 < l.length := by simp at hn; omega
    have e1 : l[k1]? = some l[k1] := List.getElem?_eq_getElem hl1
    have e2 : l[k2]? = some l[k2] := List.getElem?_eq_getElem hl2
    have g1 : l.toArray[k1]? = some l[k1] := by simp [hl1]
    have g2 : l.toArray[k2]? = some l[k2] := by simp [hl2]
    simp only [wpPlan, e1, e2] at h
    refine ⟨fun h1 => (by rw [hr] at h1; cases h1), fun i hi => ?_⟩
    have hi2 := hi
    rw [hr] at hi
    rcases (show i = k1 ∨ i = k2 by simpa using hi) with rfl | rfl
    · exact ⟨hk1, wpOp_mono (fun a' w' h' => ⟨h'.1, wpAnyN_plan hsel hs hc hn hQ p1 f _ a' w' (inv.set hi2 hk1) h'.1 hB1 h'.2⟩) (wpOp_of_one g1 h.1)⟩
    · exact ⟨hk2, wpOp_mono (fun a' w' h' => ⟨h'.1, wpAnyN_plan hsel hs hc hn hQ p2 f _ a' w' (inv.set hi2 hk2) h'.1 hB2 h'.2⟩) (wpOp_of_one g2 h.2)⟩

theorem any_plan {a : Act} {w : World} {l : List Oper} (p : Plan) (m : Nat) (hB : planB .any l.toArray p m = true)
    (hQ : ∀ c (a : Act) (d : Option Tmp) v w, Q (.panic c) (a.put d v) w → Q (.panic c) a w)
    (h : ∀ w', w'.heap = w.heap → w'.os = w.os → w'.tape = w.tape → w'.output = w.output → S w' ∧ wpPlan P l S K Q m p a w') :
    wpAny P .any l.toArray (Exit.then K Q) l.toArray.size (Array.replicate l.toArray.size false) a { w with drawn := w.drawn + 1 } := by
  simp only [planB, Bool.and_eq_true, decide_eq_true_eq] at hB
  obtain ⟨⟨⟨⟨hsel, hn⟩, hs⟩, hc⟩, hlex⟩ := hB
  obtain ⟨hS, hh⟩ := h { w with drawn := w.drawn + 1 } rfl rfl rfl rfl
  have inv0 : HeadInv .any l.toArray m (Array.replicate l.toArray.size false) :=
    ⟨by simp, fun j oj _ hl => (by rw [getD_replicate_false] at hl; cases hl), fun t _ ht => getD_in (by simpa using ht) (getD_replicate_false _ _)⟩
  have H := wpAnyN_plan (P := P) (S := S) (Q := Q) (K := K) (md := .any) (l := l) hsel hs hc hn hQ p m _ a { w with drawn := w.drawn + 1 } inv0 hS hlex hh
  have := wpAny_of_N (Q := Exit.then K Q) (g := l.toArray.size - m) (fun listed a' w' hL => by
    have hdl : (l.drop m).length = l.toArray.size - m := by simp
    have := wpAny_of_seq (md := .any) (ops := l.toArray) (Q' := Exit.then K Q) (l.drop m) m listed a' w' (fun j => by simp [List.getElem?_drop]) (by rw [hdl]; exact hL.1) (by simpa using hL.2)
    rwa [hdl] at this) _ _ _ _ H
  rw [show m + (l.toArray.size - m) = l.toArray.size by omega] at this
  exact this

/-- The region by a plan, in a plain walk. -/
theorem region_plan {id : Nat} {a : Act} {w : World} {l : List Oper} (p : Plan) (m : Nat) (hm : P.follows .mixedOrders = true) (hB : planB .any l.toArray p m = true)
    (hQ : ∀ c (a : Act) (d : Option Tmp) v w, Q (.panic c) (a.put d v) w → Q (.panic c) a w)
    (h : ∀ w', w'.heap = w.heap → w'.os = w.os → w'.tape = w.tape → w'.output = w.output → S w' ∧ wpPlan P l S (Q .normal) Q m p a w') : (Code.region id l.toArray true).wp P Q a w := by
  have h1 := any_plan (Q := Q) (K := Q .normal) p m hB hQ h
  rw [exit_then_self] at h1
  exact wp_region_any hm h1
/-- .. in a round of a range over a function. -/
theorem region_plan_round {id r n : Nat} {a : Act} {w : World} {l : List Oper} (p : Plan) (m : Nat) (hm : P.follows .mixedOrders = true) (hB : planB .any l.toArray p m = true) (hd : calm l.toArray = true) (hL : ¬ LetsOut Q)
    (hQ : ∀ c (a : Act) (d : Option Tmp) v w, Q (.panic c) (a.put d v) w → Q (.panic c) a w)
    (h : ∀ w', w'.heap = w.heap → w'.os = w.os → w'.tape = w.tape → w'.output = w.output → S w' ∧ wpPlan P l S (Q .normal) Q m p a w') : (Code.region id l.toArray true).wpIn (Fence.wide.inRound r) n P Q a w := by
  have h1 := any_plan (Q := Q) (K := Q .normal) p m hB hQ h
  rw [exit_then_self] at h1
  exact wpIn_region_any hm (wpAnyIn_of_any hd hL _ _ _ _ h1)
end
end Go.Troupe
