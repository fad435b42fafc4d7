/- A region in the text's order, by the same plan as one that draws its order: guards may be left open. My own, over any program. -/
import Derived.Test.YtkjjhndccelbcaaUpG
namespace Go.Troupe
open Go Go.RowKit

def UPlan.seq (n : Nat) : UPlan → Nat → Bool
  | .done, k => k == n
  | .q j p, k => j == k && decide (k < n) && p.seq n (k + 1)
  | .one j p, k => j == k && decide (k < n) && p.seq n (k + 1)
  | .two _ _ _ _, _ => false
section
variable {P : Program} {Q : Exit → Act → World → Prop}
theorem ops_of_seq {l : List Oper} : ∀ (p : UPlan) (k : Nat) (a : Act) (w : World), p.seq l.length k = true → wpUP P l Q p a w → wpOps P l.toArray Q (List.range' k (l.length - k)) a w
  | .done, k, a, w, hB, h => by
    have hk : k = l.length := by simpa [UPlan.seq] using hB
    subst hk
    rw [Nat.sub_self]
    exact h w (Up.refl w)
  | .q j p, k, a, w, hB, h => by
    simp only [UPlan.seq, Bool.and_eq_true, beq_iff_eq, decide_eq_true_eq] at hB
    obtain ⟨⟨rfl, hj⟩, hB'⟩ := hB
    simp only [wpUP] at h
    cases hk : l[j]? with
    | none => rw [hk] at h; exact h.elim
    | some o =>
      rw [hk] at h
      obtain ⟨v, h1, h2⟩ := h
      have h0 : l.toArray[j]? = some o := by simpa using hk
      rw [show l.length - j = (l.length - (j + 1)) + 1 by omega, List.range'_succ, wpOps_cons]
      exact h1.wpOp h0 (Up.refl w) (fun w'' hu => ops_of_seq p (j + 1) _ _ hB' (h2.up hu))
  | .one j p, k, a, w, hB, h => by
    simp only [UPlan.seq, Bool.and_eq_true, beq_iff_eq, decide_eq_true_eq] at hB
    obtain ⟨⟨rfl, hj⟩, hB'⟩ := hB
    simp only [wpUP] at h
    cases hk : l[j]? with
    | none => rw [hk] at h; exact h.elim
    | some o =>
      rw [hk] at h
      have h0 : l.toArray[j]? = some o := by simpa using hk
      rw [show l.length - j = (l.length - (j + 1)) + 1 by omega, List.range'_succ, wpOps_cons]
      exact wpOp_mono (fun a' w' h' => ops_of_seq p (j + 1) _ _ hB' h'.2) (wpOp_of_one h0 (h w (Up.refl w)))
  | .two _ _ _ _, k, a, w, hB, h => by simp [UPlan.seq] at hB
/-- The region in the text's order. -/
theorem region_seq {id : Nat} {a : Act} {w : World} {l : List Oper} (p : UPlan) (hB : p.seq l.length 0 = true) (h : wpUP P l Q p a w) : (Code.region id l.toArray false).wp P Q a w := by
  refine wp_region ?_
  have := ops_of_seq p 0 a w hB h
  rw [List.range_eq_range']
  simpa using this
end
end Go.Troupe
namespace Go.Troupe
open Go Go.RowKit
section
variable {P : Program} {Q : Exit → Act → World → Prop}
def boolOf : Value → Option Bool
  | .bool b => some b
  | _ => none
theorem wanted_at {l : List Oper} {o : Oper} {a : Act} {j d : Nat} {want : Bool} {x : Value} (hg : o.guard = some (j, want)) (hd : (l.toArray[j]?).bind (·.dst) = some d) (ht : a.tmps[d]? = some x) :
    Region.wanted o (yielded l.toArray a.tmps) = (boolOf x == some want) := by
  unfold Region.wanted yielded
  rw [hg]
  dsimp only
  rw [hd]
  dsimp only [Option.bind_some]
  rw [ht]
  clear ht
  cases x <;> rfl
/-- A guard that is itself guarded: four ways. -/
theorem wpUP_gTt {l : List Oper} {k : Nat} {p : UPlan} {o : Oper} {a : Act} {w : World} {g y : Bool} {v : Value} {j d : Nat} (h0 : l[k]? = some o) (hg : o.guard = some (j, true)) (hd : (l.toArray[j]?).bind (·.dst) = some d) (ht : a.tmps[d]? = some (bif g then .bool y else undef))
    (h1 : (g && y) = true → ∀ F : Value → Prop, F v → ∃ u, quietU P o a w u ∧ F u) (h2 : wpUP P l Q p (a.put o.dst (bif (g && y) then v else undef)) w) : wpUP P l Q (.q k p) a w :=
  wpUP_g2 h0 (fun F hF => by rw [wanted_at hg hd ht]; cases g <;> cases y <;> exact hF) h1 h2
theorem wpUP_gTf {l : List Oper} {k : Nat} {p : UPlan} {o : Oper} {a : Act} {w : World} {g y : Bool} {v : Value} {j d : Nat} (h0 : l[k]? = some o) (hg : o.guard = some (j, false)) (hd : (l.toArray[j]?).bind (·.dst) = some d) (ht : a.tmps[d]? = some (bif g then .bool y else undef))
    (h1 : (g && !y) = true → ∀ F : Value → Prop, F v → ∃ u, quietU P o a w u ∧ F u) (h2 : wpUP P l Q p (a.put o.dst (bif (g && !y) then v else undef)) w) : wpUP P l Q (.q k p) a w :=
  wpUP_g2 h0 (fun F hF => by rw [wanted_at hg hd ht]; cases g <;> cases y <;> exact hF) h1 h2
theorem wpUP_gFt {l : List Oper} {k : Nat} {p : UPlan} {o : Oper} {a : Act} {w : World} {g y : Bool} {v : Value} {j d : Nat} (h0 : l[k]? = some o) (hg : o.guard = some (j, true)) (hd : (l.toArray[j]?).bind (·.dst) = some d) (ht : a.tmps[d]? = some (bif g then undef else .bool y))
    (h1 : (!g && y) = true → ∀ F : Value → Prop, F v → ∃ u, quietU P o a w u ∧ F u) (h2 : wpUP P l Q p (a.put o.dst (bif (!g && y) then v else undef)) w) : wpUP P l Q (.q k p) a w :=
  wpUP_g2 h0 (fun F hF => by rw [wanted_at hg hd ht]; cases g <;> cases y <;> exact hF) h1 h2
theorem wpUP_gFf {l : List Oper} {k : Nat} {p : UPlan} {o : Oper} {a : Act} {w : World} {g y : Bool} {v : Value} {j d : Nat} (h0 : l[k]? = some o) (hg : o.guard = some (j, false)) (hd : (l.toArray[j]?).bind (·.dst) = some d) (ht : a.tmps[d]? = some (bif g then undef else .bool y))
    (h1 : (!g && !y) = true → ∀ F : Value → Prop, F v → ∃ u, quietU P o a w u ∧ F u) (h2 : wpUP P l Q p (a.put o.dst (bif (!g && !y) then v else undef)) w) : wpUP P l Q (.q k p) a w :=
  wpUP_g2 h0 (fun F hF => by rw [wanted_at hg hd ht]; cases g <;> cases y <;> exact hF) h1 h2
theorem pick_andn (r x : Bool) : (if r = false then (bif r then undef else Value.bool x) else Value.bool false) = .bool (!r && x) := by cases r <;> rfl
theorem pick_andn' (r x : Bool) : (if r = true then Value.bool false else (bif r then undef else Value.bool x)) = .bool (!r && x) := by cases r <;> rfl
end
end Go.Troupe
