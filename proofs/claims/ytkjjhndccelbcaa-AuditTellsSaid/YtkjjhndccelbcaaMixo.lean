/- A region that draws its order: reads, taken in an order of one's own choice; behind them, one at a time, what makes memory; then the tail. In a plain walk, and in a round of a range over a function. My own, over any program. -/
import Derived.Test.YtkjjhndccelbcaaMix
import Derived.OrdersIn
import Derived.RangeFuncCalls
namespace Go.Troupe
open Go

section
variable {P : Program} {ops : Array Oper} {md : Region.Mode} {S : World → Prop} {Q : Exit → Act → World → Prop}

/-- The operations of these numbers. -/
def pick : List Oper → List Nat → List Oper
  | _, [] => []
  | l, k :: ks => match l[k]? with
    | some o => o :: pick l ks
    | none => pick l ks

def midO (md : Region.Mode) (ops : Array Oper) (m : Nat) : List Nat → Array Bool → Bool
  | [], listed => Region.seqB md ops (ops.size - m) m listed
  | k :: ks, listed => decide (Region.ready md ops listed = [k]) && decide (k < m) && midO md ops m ks (listed.setIfInBounds k true)
def headO (md : Region.Mode) (ops : Array Oper) (m : Nat) (mid : List Nat) : List Nat → Array Bool → Bool
  | [], listed => midO md ops m mid listed
  | k :: ks, listed => decide (k < m) && (Region.ready md ops listed).contains k && Region.free md ops listed k && headO md ops m mid ks (listed.setIfInBounds k true)
def mixO (md : Region.Mode) (ops : Array Oper) (o1 o2 : List Nat) (m : Nat) : Bool :=
  Region.noSelect ops && decide (m < ops.size) && Region.sinkB md ops m && Region.chainB md ops m && headO md ops m o2 o1 (Array.replicate ops.size false) && decide (o1.length + o2.length = m)

theorem wpAnyN_midO {m : Nat} (hm : m < ops.size) {K : Act → World → Prop} : ∀ (ks : List Nat) (listed : Array Bool) (a : Act) (w : World),
    midO md ops m ks listed = true → wpMid P ops (Exit.then K Q) S (fun a w => wpList P ops (Exit.then K Q) (ops.toList.drop m) a w) (pick ops.toList ks) a w → wpAnyN P md ops (Exit.then K Q) S m (LL P md ops (Exit.then K Q) m) ks.length listed a w
  | [], listed, a, w, hB, h => ⟨hB, h⟩
  | k :: ks, listed, a, w, hB, h => by
    simp only [midO, Bool.and_eq_true, decide_eq_true_eq] at hB
    obtain ⟨⟨hr, hkm⟩, hB'⟩ := hB
    have hk : k < ops.size := by omega
    have h0 : ops[k]? = some ops[k] := Array.getElem?_eq_getElem hk
    have h1 : ops.toList[k]? = some ops[k] := by simp [hk]
    simp only [pick, h1] at h
    refine ⟨fun h1 => (by rw [hr] at h1; cases h1), fun i hi => ?_⟩
    rw [hr] at hi
    obtain rfl : i = k := by simpa using hi
    refine ⟨hkm, ?_⟩
    have hw : wpOp P ops (Exit.then K Q) i (fun a w => S w ∧ wpMid P ops (Exit.then K Q) S (fun a w => wpList P ops (Exit.then K Q) (ops.toList.drop m) a w) (pick ops.toList ks) a w) a w :=
      wpOpIn_of_one' h0 h
    exact wpOp_mono (fun a' w' h' => ⟨h'.1, wpAnyN_midO hm ks _ a' w' hB' h'.2⟩) hw
where wpOpIn_of_one' {X : Act → World → Prop} {i : Nat} {o : Oper} {a : Act} {w : World} {Q : Exit → Act → World → Prop} (h0 : ops[i]? = some o) (h : wpList P ops (Exit.then X Q) [o] a w) : wpOp P ops Q i X a w := wpOp_of_one h0 h

theorem wpAnyN_headO {m : Nat} {K : Act → World → Prop} (hsel : Region.noSelect ops = true) (hs : Region.sinkB md ops m = true) (hc : Region.chainB md ops m = true) (hn : m < ops.size)
    (hQ : ∀ c (a : Act) (d : Option Tmp) v w, Q (.panic c) (a.put d v) w → Q (.panic c) a w) (mid : List Nat) (w : World) (hS : S w) :
    ∀ (ks : List Nat) (listed : Array Bool) (a : Act), HeadInv md ops m listed →
    headO md ops m mid ks listed = true →
    wpReads P ops S (fun a' => wpMid P ops (Exit.then K Q) S (fun a w => wpList P ops (Exit.then K Q) (ops.toList.drop m) a w) (pick ops.toList mid) a' w) (pick ops.toList ks) a →
    wpAnyN P md ops (Exit.then K Q) S m (LL P md ops (Exit.then K Q) m) (ks.length + mid.length) listed a w
  | [], listed, a, inv, hB, h => by
    rw [List.length_nil, Nat.zero_add]
    exact wpAnyN_midO hn mid listed a w hB h
  | k :: ks, listed, a, inv, hB, h => by
    simp only [headO, Bool.and_eq_true, decide_eq_true_eq] at hB
    obtain ⟨⟨⟨hkm, hr⟩, hf⟩, hB'⟩ := hB
    have hk : k < ops.size := by omega
    have h0 : ops[k]? = some ops[k] := Array.getElem?_eq_getElem hk
    have h1 : ops.toList[k]? = some ops[k] := by simp [hk]
    simp only [pick, h1] at h
    generalize ops[k] = o at *
    have hr' : k ∈ Region.ready md ops listed := by simpa using hr
    obtain ⟨v, hy, hK⟩ : ∃ v, YieldsIf P ops S o v a ∧ wpReads P ops S (fun a' => wpMid P ops (Exit.then K Q) S (fun a w => wpList P ops (Exit.then K Q) (ops.toList.drop m) a w) (pick ops.toList mid) a' w) (pick ops.toList ks) (a.put o.dst v) := by
      unfold wpReads at h
      by_cases hw : Region.wanted o (yielded ops a.tmps) = true
      · rw [if_pos hw] at h
        obtain ⟨v, h1, h2⟩ := h
        exact ⟨v, .inl ⟨hw, fun w hw => readAt_run (h1 w hw)⟩, h2⟩
      · rw [if_neg hw] at h
        exact ⟨undef, .inr ⟨by simpa using hw, rfl⟩, h⟩
    have := wpAnyN_first (S := S) (L := LL P md ops (Exit.then K Q) m) h0 (Region.noSelect_spec hsel) hs hc hn hkm (Q := Exit.then K Q) (fun c a d v w h => hQ c a d v w h) (fun listed' a' w' hL => seqB_ready hL.1)
      (ks.length + mid.length) listed a w inv (Region.free_spec h0 hf) hr' hy hS
      (wpAnyN_headO hsel hs hc hn hQ mid w hS ks _ _ (inv.set hr' hkm) hB' hK)
    rw [List.length_cons, show ks.length + 1 + mid.length = ks.length + mid.length + 1 by omega]
    exact this

theorem any_mixO {K : Act → World → Prop} {a : Act} {w : World} {l : List Oper} (o1 o2 : List Nat) (m : Nat) (hB : mixO .any l.toArray o1 o2 m = true)
    (hQ : ∀ c (a : Act) (d : Option Tmp) v w, Q (.panic c) (a.put d v) w → Q (.panic c) a w)
    (h : ∀ w', w'.heap = w.heap → w'.os = w.os → w'.tape = w.tape → w'.output = w.output → S w' ∧
      wpReads P l.toArray S (fun a' => wpMid P l.toArray (Exit.then K Q) S (fun a w => wpList P l.toArray (Exit.then K Q) (l.drop m) a w) (pick l o2) a' w') (pick l o1) a) :
    wpAny P .any l.toArray (Exit.then K Q) l.toArray.size (Array.replicate l.toArray.size false) a { w with drawn := w.drawn + 1 } := by
  simp only [mixO, Bool.and_eq_true, decide_eq_true_eq] at hB
  obtain ⟨⟨⟨⟨⟨hsel, hn⟩, hs⟩, hc⟩, hlex⟩, hlen⟩ := hB
  obtain ⟨hS, hh⟩ := h { w with drawn := w.drawn + 1 } rfl rfl rfl rfl
  have inv0 : HeadInv .any l.toArray m (Array.replicate l.toArray.size false) :=
    ⟨by simp, fun j oj _ hl => (by rw [getD_replicate_false] at hl; cases hl), fun t _ ht => getD_in (by simpa using ht) (getD_replicate_false _ _)⟩
  have H := wpAnyN_headO (P := P) (S := S) (Q := Q) (K := K) (md := .any) (ops := l.toArray) hsel hs hc hn hQ o2 { w with drawn := w.drawn + 1 } hS o1 _ a inv0 hlex (by simpa using hh)
  have := wpAny_of_N (Q := Exit.then K Q) (g := l.toArray.size - m) (fun listed a' w' hL => by
    have hdl : (l.drop m).length = l.toArray.size - m := by simp
    have := wpAny_of_seq (md := .any) (ops := l.toArray) (Q' := Exit.then K Q) (l.drop m) m listed a' w' (fun j => by simp [List.getElem?_drop]) (by rw [hdl]; exact hL.1) (by simpa using hL.2)
    rwa [hdl] at this) _ _ _ _ H
  rw [show o1.length + o2.length + (l.toArray.size - m) = l.toArray.size by omega] at this
  exact this

/-- The region, in a plain walk: the reads in the order o1, then one at a time in the order o2, then the tail from m. -/
theorem region_mixo {id : Nat} {K : Act → World → Prop} {a : Act} {w : World} {l : List Oper} (o1 o2 : List Nat) (m : Nat) (hm : P.follows .mixedOrders = true) (hB : mixO .any l.toArray o1 o2 m = true)
    (hQ : ∀ c (a : Act) (d : Option Tmp) v w, Q (.panic c) (a.put d v) w → Q (.panic c) a w)
    (h : ∀ w', w'.heap = w.heap → w'.os = w.os → w'.tape = w.tape → w'.output = w.output → S w' ∧
      wpReads P l.toArray S (fun a' => wpMid P l.toArray (Exit.then K Q) S (fun a w => wpList P l.toArray (Exit.then K Q) (l.drop m) a w) (pick l o2) a' w') (pick l o1) a) : (Code.region id l.toArray true).wp P (Exit.then K Q) a w :=
  wp_region_any hm (any_mixO o1 o2 m hB hQ h)

/-! ### in a round -/
def calm (ops : Array Oper) : Bool := ops.all fun o => match o.op with | .defer _ => false | _ => true
theorem calm_spec (h : calm ops = true) {i : Nat} {o : Oper} (hi : ops[i]? = some o) : ∀ c, o.op ≠ .defer c := by
  intro c hc
  have := (Array.all_eq_true'.1 h) o (Array.mem_of_getElem? hi)
  rw [hc] at this
  cases this

theorem Oper.wpIn_of_wp {r n : Nat} {o : Oper} {a : Act} {w : World} {K : Act → World → Prop} (hd : ∀ c, o.op ≠ .defer c) (h : o.wp P a w K Q) : o.wpIn (Fence.wide.inRound r) n P a w K Q := by
  refine ⟨fun _ _ => trivial, ?_⟩
  unfold Oper.wp at h
  rw [Oper.semAt_eq _ _ _ hd]
  generalize (execOp a.eval o).run P w = z at *
  cases z with
  | ok x w' =>
    cases x with
    | value v => exact h
    | skip => exact h
    | «defer» d => exact h
    | enter f args =>
      refine ⟨fun h => by simp [Fence.wide] at h, CallsIn.inRound r ((callsIn_wide (n := n - 1)).2 ?_)⟩
      exact h
    | row row args =>
      refine ⟨fun h => by simp [Fence.wide] at h, fun c cs _ => ?_⟩
      obtain ⟨v, w'', h1, h2⟩ := h c cs
      exact ⟨v, w'', h1, stepsIn_wide.2 h2⟩
    | _ => exact h.elim
  | halt x w' =>
    cases x <;> exact h

theorem wpAnyIn_of_any {r n : Nat} (hd : calm ops = true) (hL : ¬ LetsOut Q) : ∀ (f : Nat) (listed : Array Bool) (a : Act) (w : World), wpAny P md ops Q f listed a w → wpAnyIn (Fence.wide.inRound r) n P md ops Q f listed a w
  | 0, listed, a, w, h => h
  | f + 1, listed, a, w, h => by
    refine ⟨h.1, fun i hi => ?_⟩
    have h2 := h.2 i hi
    unfold wpOp at h2
    unfold wpOpIn
    split
    · rename_i h0
      simp only [h0] at h2
      exact wpAnyIn_of_any hd hL f _ a w h2
    · rename_i o h0
      simp only [h0] at h2
      split
      · rename_i hw
        rw [if_pos hw] at h2
        rcases h2 with h2 | h2
        · exact Oper.wpIn_mono (fun a' w' h' => wpAnyIn_of_any hd hL f _ a' w' h') (Oper.wpIn_of_wp (calm_spec hd h0) h2)
        · exact absurd h2.2 hL
      · rename_i hw
        rw [if_neg hw] at h2
        exact ⟨fun _ _ => trivial, wpAnyIn_of_any hd hL f _ _ w h2⟩

theorem exit_then_self (Q : Exit → Act → World → Prop) : Exit.then (Q .normal) Q = Q := by
  funext e a w
  cases e <;> rfl

/-- The region, in a round of a range over a function. -/
theorem region_mixo_any {id : Nat} {a : Act} {w : World} {l : List Oper} (o1 o2 : List Nat) (m : Nat) (hm : P.follows .mixedOrders = true) (hB : mixO .any l.toArray o1 o2 m = true)
    (hQ : ∀ c (a : Act) (d : Option Tmp) v w, Q (.panic c) (a.put d v) w → Q (.panic c) a w)
    (h : ∀ w', w'.heap = w.heap → w'.os = w.os → w'.tape = w.tape → w'.output = w.output → S w' ∧
      wpReads P l.toArray S (fun a' => wpMid P l.toArray (Exit.then (Q .normal) Q) S (fun a w => wpList P l.toArray (Exit.then (Q .normal) Q) (l.drop m) a w) (pick l o2) a' w') (pick l o1) a) : (Code.region id l.toArray true).wp P Q a w := by
  have h1 := any_mixO (Q := Q) (K := Q .normal) o1 o2 m hB hQ h
  rw [exit_then_self] at h1
  exact wp_region_any hm h1
theorem region_mixo_round {id r n : Nat} {a : Act} {w : World} {l : List Oper} (o1 o2 : List Nat) (m : Nat) (hm : P.follows .mixedOrders = true) (hB : mixO .any l.toArray o1 o2 m = true) (hd : calm l.toArray = true) (hL : ¬ LetsOut Q)
    (hQ : ∀ c (a : Act) (d : Option Tmp) v w, Q (.panic c) (a.put d v) w → Q (.panic c) a w)
    (h : ∀ w', w'.heap = w.heap → w'.os = w.os → w'.tape = w.tape → w'.output = w.output → S w' ∧
      wpReads P l.toArray S (fun a' => wpMid P l.toArray (Exit.then (Q .normal) Q) S (fun a w => wpList P l.toArray (Exit.then (Q .normal) Q) (l.drop m) a w) (pick l o2) a' w') (pick l o1) a) : (Code.region id l.toArray true).wpIn (Fence.wide.inRound r) n P Q a w := by
  have h1 := any_mixO (Q := Q) (K := Q .normal) o1 o2 m hB hQ h
  rw [exit_then_self] at h1
  exact wpIn_region_any hm (wpAnyIn_of_any hd hL _ _ _ _ h1)
end
end Go.Troupe
