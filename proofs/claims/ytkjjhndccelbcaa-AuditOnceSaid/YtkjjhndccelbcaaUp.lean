/- A region that draws its order, whose operations leave all that was there as it was: reads, and calls that make memory of their own, are taken first whenever they may come up, a guard's outcome left open; of the others each way is walked, whatever was made in between. My own, over any program. -/
import Derived.Test.YtkjjhndccelbcaaMixo
import Derived.Deep.Quiet
import Derived.Below
namespace Go.Troupe
open Go Go.RowKit

/-- All that was there is as it was. -/
def Up (w w' : World) : Prop := Below w.heap.size w w'
theorem Up.refl (w : World) : Up w w := Below.refl _ _
theorem Up.trans {a b c : World} (h : Up a b) (h' : Up b c) : Up a c := Below.trans h (Below.mono h' h.size)
/-- A world above another one, as one letter. -/
structure UW (w0 : World) where
  w : World
  h : Up w0 w

inductive UPlan where
  | done
  | q (k : Nat) (p : UPlan)
  | one (k : Nat) (p : UPlan)
  | two (k1 : Nat) (p1 : UPlan) (k2 : Nat) (p2 : UPlan)
def UPlan.check (md : Region.Mode) (ops : Array Oper) : UPlan → Nat → Array Bool → Bool
  | .done, 0, listed => (Region.ready md ops listed).isEmpty
  | .q k p, f + 1, listed => (Region.ready md ops listed).contains k && Region.free md ops listed k && p.check md ops f (listed.setIfInBounds k true)
  | .one k p, f + 1, listed => decide (Region.ready md ops listed = [k]) && p.check md ops f (listed.setIfInBounds k true)
  | .two k1 p1 k2 p2, f + 1, listed => decide (Region.ready md ops listed = [k1, k2]) && p1.check md ops f (listed.setIfInBounds k1 true) && p2.check md ops f (listed.setIfInBounds k2 true)
  | _, _, _ => false
def upB (md : Region.Mode) (ops : Array Oper) (p : UPlan) : Bool := Region.noSelect ops && p.check md ops ops.size (Array.replicate ops.size false)

section
variable {P : Program} {ops : Array Oper} {Q : Exit → Act → World → Prop} {md : Region.Mode}

/-- Whatever world above w stands, o yields v there, and leaves a world above it. -/
def YieldsU (P : Program) (ops : Array Oper) (o : Oper) (v : Value) (a : Act) (w : World) : Prop :=
  (Region.wanted o (yielded ops a.tmps) = true ∧ ∀ w', Up w w' → o.quietAt P a (Up w') w' v) ∨ (Region.wanted o (yielded ops a.tmps) = false ∧ v = undef)
theorem YieldsU.of_same {o : Oper} {v : Value} {a a' : Act} {w : World} (hy : YieldsU P ops o v a w) (he : execOp a'.eval o = execOp a.eval o)
    (hw : Region.wanted o (yielded ops a'.tmps) = Region.wanted o (yielded ops a.tmps)) : YieldsU P ops o v a' w := by
  unfold YieldsU Oper.quietAt at *
  rw [he, hw]
  exact hy
theorem YieldsU.up {o : Oper} {v : Value} {a : Act} {w w' : World} (hy : YieldsU P ops o v a w) (h : Up w w') : YieldsU P ops o v a w' :=
  hy.imp (fun ⟨h1, h2⟩ => ⟨h1, fun w'' h' => h2 w'' (h.trans h')⟩) id
theorem wp_of_quietAt {o : Oper} {a : Act} {K : Act → World → Prop} {C : World → Prop} {v : Value} {w : World} (hC : C w) (h3 : o.quietAt P a C w v) (h : ∀ w', C w' → K (a.put o.dst v) w') : o.wp P a w K Q := by
  unfold Oper.quietAt at h3
  unfold Oper.wp
  generalize (execOp a.eval o).run P w = r at *
  cases r with
  | ok n w' =>
    cases n <;> simp only [Oper.quietUpon] at h3 <;> simp only [Oper.upon]
    case value u =>
      obtain ⟨e1, e2⟩ := h3
      rw [e1, e2]
      exact h _ hC
    case skip =>
      obtain ⟨e1, e2⟩ := h3
      rw [e1, ← e2]
      exact h _ hC
    case enter f args =>
      obtain ⟨e1, hc⟩ := h3
      rw [e1]
      exact hc.mono fun e w'' ⟨he, hw''⟩ => by subst he; exact h _ hw''
  | halt x w' => simp only [Oper.quietUpon] at h3
theorem YieldsU.wpOp {i : Nat} {o : Oper} {v : Value} {a : Act} {w w' : World} (hi : ops[i]? = some o) (hy : YieldsU P ops o v a w) (hu : Up w w') {K : Act → World → Prop} (h : ∀ w'', Up w' w'' → K (a.put o.dst v) w'') : wpOp P ops Q i K a w' := by
  unfold Go.wpOp
  simp only [hi]
  rcases hy with ⟨hw, hv⟩ | ⟨hw, rfl⟩
  · simp only [hw, if_true]
    exact .inl (wp_of_quietAt (Up.refl w') (hv w' hu) h)
  · simp only [hw, Bool.false_eq_true, if_false]
    exact h _ (Up.refl w')
theorem wpOp_putU {j : Nat} {oi oj : Oper} {v : Value} {w0 : World} (hj : ops[j]? = some oj) (hap : oi.apart ops oj = true)
    (hsi : ∀ cs b, oi.op ≠ .select cs b) (hsj : ∀ cs b, oj.op ≠ .select cs b)
    (hQ : ∀ c a w, Q (.panic c) (a.put oi.dst v) w → Q (.panic c) a w) {K : Act → World → Prop} {a : Act} {w : World}
    (hy : YieldsU P ops oi v a w0) (h : wpOp P ops Q j K (a.put oi.dst v) w) :
    wpOp P ops Q j (fun a' w' => YieldsU P ops oi v a' w0 ∧ K (a'.put oi.dst v) w') a w := by
  obtain ⟨h1, h2, h3⟩ := Oper.apart_spec hap
  have keep : ∀ (a : Act), YieldsU P ops oi v a w0 → ∀ u, YieldsU P ops oi v (a.put oj.dst u) w0 := fun a hy u =>
    hy.of_same (execOp_put oi hsi a oj.dst u h3) (wanted_put oi a oj.dst u h3)
  have keepD : ∀ d, YieldsU P ops oi v { a with defers := d :: a.defers } w0 := fun d => hy.of_same rfl rfl
  unfold wpOp at *
  simp only [hj] at *
  rw [wanted_put oj a oi.dst v h1] at h
  split
  · rename_i hw
    simp only [hw, if_true] at h
    rcases h with h | ⟨hasks, hlets⟩
    case inr => exact .inr ⟨by unfold Oper.asks at *; rw [execOp_put oj hsj a oi.dst v h1] at hasks; exact hasks, hlets⟩
    refine .inl ?_
    unfold Oper.wp at *
    rw [execOp_put oj hsj a oi.dst v h1] at h
    generalize (execOp a.eval oj).run P w = r at *
    cases r with
    | ok n w' =>
      cases n <;> simp only [Oper.upon] at h ⊢
      case value u => exact ⟨keep a hy u, by rw [← Act.put_comm a v u h2]; exact h⟩
      case skip => exact ⟨keep a hy _, by rw [← Act.put_comm a v undef h2]; exact h⟩
      case defer d =>
        refine ⟨keep _ (keepD d) _, ?_⟩
        rw [← Act.put_comm _ v undef h2, ← Act.put_defers]
        exact h
      case enter f args =>
        refine Calls.mono h fun e w'' he => ?_
        cases e with
        | returned u => exact ⟨keep a hy u, by rw [← Act.put_comm a v u h2]; exact he⟩
        | panicked c => exact hQ _ _ _ he
        | outgrown => exact he
      case row row args => exact Rows.mono h fun u w'' he => ⟨keep a hy u, by rw [← Act.put_comm a v u h2]; exact he⟩
    | halt x w' =>
      cases x <;> simp only [Oper.upon] at h ⊢
      case panic u => exact hQ _ _ _ h
  · rename_i hw
    simp only [hw] at h
    exact ⟨keep a hy _, by rw [← Act.put_comm a v undef h2]; exact h⟩

def wpAnyU (P : Program) (md : Region.Mode) (ops : Array Oper) (Q : Exit → Act → World → Prop) : Nat → Array Bool → Act → World → Prop
  | 0, listed, a, w => Region.ready md ops listed = [] ∧ ∀ w', Up w w' → Q .normal a w'
  | f + 1, listed, a, w => ∀ w', Up w w' → (Region.ready md ops listed = [] → Q .normal a w') ∧
    ∀ i ∈ Region.ready md ops listed, wpOp P ops Q i (fun a'' w'' => Up w' w'' ∧ wpAnyU P md ops Q f (listed.setIfInBounds i true) a'' w'') a w'
theorem wpAnyU.up {f : Nat} {listed : Array Bool} {a : Act} {w w' : World} (h : wpAnyU P md ops Q f listed a w) (hu : Up w w') : wpAnyU P md ops Q f listed a w' := by
  cases f with
  | zero => exact ⟨h.1, fun w'' h' => h.2 w'' (hu.trans h')⟩
  | succ f => exact fun w'' h' => h w'' (hu.trans h')
theorem wpAny_of_U : ∀ (f : Nat) (listed : Array Bool) (a : Act) (w : World), wpAnyU P md ops Q f listed a w → wpAny P md ops Q f listed a w
  | 0, _, _, w, h => ⟨h.1, h.2 w (Up.refl w)⟩
  | f + 1, _, _, w, h => ⟨(h w (Up.refl w)).1, fun i hi => wpOp_mono (fun a' w' h' => wpAny_of_U f _ a' w' h'.2) ((h w (Up.refl w)).2 i hi)⟩
theorem wpAnyU_first {i : Nat} {oi : Oper} {v : Value} (hi : ops[i]? = some oi) (hsel : ∀ (j : Nat) (o : Oper) cs b, ops[j]? = some o → o.op ≠ .select cs b)
    (hQ : ∀ c (a : Act) (d : Option Tmp) v w, Q (.panic c) (a.put d v) w → Q (.panic c) a w) :
    ∀ (f : Nat) (listed : Array Bool) (a : Act) (w : World),
      (∀ j oj, ops[j]? = some oj → j ≠ i → listed.getD j true = false → (∀ e ∈ oj.after, Region.binds md e = true → e.on ≠ i) → oi.apart ops oj = true) →
      i ∈ Region.ready md ops listed → YieldsU P ops oi v a w →
      wpAnyU P md ops Q f (listed.setIfInBounds i true) (a.put oi.dst v) w → wpAnyU P md ops Q (f + 1) listed a w := by
  intro f
  induction f with
  | zero =>
    intro listed a w _ hr hy H w' hu
    refine ⟨fun h => (by rw [h] at hr; cases hr), fun j hj => ?_⟩
    by_cases hji : j = i
    · subst hji; exact hy.wpOp hi hu (fun w'' h' => ⟨h', H.up (hu.trans h')⟩)
    · have := ready_mono hj hji
      rw [H.1] at this
      cases this
  | succ f ih =>
    intro listed a w hfree hr hy H w' hu
    have hun := (mem_ready.1 hr).1
    refine ⟨fun h => (by rw [h] at hr; cases hr), fun j hj => ?_⟩
    by_cases hji : j = i
    · subst hji; exact hy.wpOp hi hu (fun w'' h' => ⟨h', H.up (hu.trans h')⟩)
    · have h1 := (H w' hu).2 j (ready_mono hj hji)
      obtain ⟨hjun, oj, hoj, hall⟩ := mem_ready.1 hj
      have hnot : ∀ e ∈ oj.after, Region.binds md e = true → e.on ≠ i := fun e he hb heq => by
        have h1 := hall e he hb
        rw [heq, getD_both hun] at h1
        cases h1
      have h2 := wpOp_putU hoj (hfree j oj hoj hji hjun hnot) (fun cs b => hsel i oi cs b hi) (fun cs b => hsel j oj cs b hoj) (fun c a w h => hQ c a _ _ w h) (hy.up hu) h1
      have hfree' : ∀ k ok, ops[k]? = some ok → k ≠ i → (listed.setIfInBounds j true).getD k true = false →
          (∀ e ∈ ok.after, Region.binds md e = true → e.on ≠ i) → oi.apart ops ok = true := fun k ok hk hki hun hno => by
        refine hfree k ok hk hki ?_ hno
        by_cases hjk : j = k
        · subst hjk; exact hjun
        · rw [getD_set_ne true hjk] at hun; exact hun
      refine wpOp_mono (fun a' w'' h3 => ⟨h3.2.1, ih (listed.setIfInBounds j true) a' w'' hfree' (ready_mono hr (Ne.symm hji)) (h3.1.up h3.2.1) ?_⟩) h2
      rw [Array.setIfInBounds_comm _ _ hji]
      exact h3.2.2
end
section
variable {P : Program} {Q : Exit → Act → World → Prop} {md : Region.Mode}

def quietU (P : Program) (o : Oper) (a : Act) (w : World) (v : Value) : Prop := ∀ x : UW w, Oper.quietUpon P (Up x.w) x.w v ((execOp a.eval o).run P x.w)
def wpUP (P : Program) (l : List Oper) (Q : Exit → Act → World → Prop) : UPlan → Act → World → Prop
  | .done, a, w => ∀ w', Up w w' → Q .normal a w'
  | .q k p, a, w => match l[k]? with
    | some o => ∃ v, YieldsU P l.toArray o v a w ∧ wpUP P l Q p (a.put o.dst v) w
    | none => False
  | .one k p, a, w => match l[k]? with
    | some o => ∀ w', Up w w' → wpList P l.toArray (Exit.then (fun a'' w'' => Up w' w'' ∧ wpUP P l Q p a'' w'') Q) [o] a w'
    | none => False
  | .two k1 p1 k2 p2, a, w => (match l[k1]? with
    | some o => ∀ w', Up w w' → wpList P l.toArray (Exit.then (fun a'' w'' => Up w' w'' ∧ wpUP P l Q p1 a'' w'') Q) [o] a w'
    | none => False) ∧ (match l[k2]? with
    | some o => ∀ w', Up w w' → wpList P l.toArray (Exit.then (fun a'' w'' => Up w' w'' ∧ wpUP P l Q p2 a'' w'') Q) [o] a w'
    | none => False)
theorem wpUP_done {l : List Oper} {a : Act} {w : World} (h : ∀ w', Up w w' → Q .normal a w') : wpUP P l Q .done a w := h
/-- An operation whose guard is decided, or that has none. -/
theorem wpUP_q {l : List Oper} {k : Nat} {p : UPlan} {o : Oper} {a : Act} {w : World} (h0 : l[k]? = some o)
    (h : ∀ K' : Act → Prop, (∀ a, wpUP P l Q p a w → K' a) → if Region.wanted o (yielded l.toArray a.tmps) then ∃ v, quietU P o a w v ∧ K' (a.put o.dst v) else K' (a.put o.dst undef)) : wpUP P l Q (.q k p) a w := by
  simp only [wpUP, h0]
  have h1 := h _ (fun _ h => h)
  by_cases hw : Region.wanted o (yielded l.toArray a.tmps) = true
  · rw [if_pos hw] at h1
    obtain ⟨v, h2, h3⟩ := h1
    exact ⟨v, .inl ⟨hw, fun w' hu => h2 ⟨w', hu⟩⟩, h3⟩
  · rw [if_neg hw] at h1
    exact ⟨undef, .inr ⟨by simpa using hw, rfl⟩, h1⟩
/-- An operation whose guard is left open. -/
theorem wpUP_g {l : List Oper} {k : Nat} {p : UPlan} {o : Oper} {a : Act} {w : World} (h0 : l[k]? = some o) (b : Bool) (hb : Region.wanted o (yielded l.toArray a.tmps) = b) (v : Value)
    (h1 : b = true → quietU P o a w v) (h2 : wpUP P l Q p (a.put o.dst (bif b then v else undef)) w) : wpUP P l Q (.q k p) a w := by
  simp only [wpUP, h0]
  cases b with
  | true => exact ⟨v, .inl ⟨hb, fun w' hu => h1 rfl ⟨w', hu⟩⟩, h2⟩
  | false => exact ⟨undef, .inr ⟨hb, rfl⟩, h2⟩
theorem wpUP_one {l : List Oper} {k : Nat} {p : UPlan} {o : Oper} {a : Act} {w : World} (h0 : l[k]? = some o)
    (h : ∀ w', Up w w' → wpList P l.toArray (Exit.then (fun a'' w'' => Up w' w'' ∧ wpUP P l Q p a'' w'') Q) [o] a w') : wpUP P l Q (.one k p) a w := by
  simp only [wpUP, h0]; exact h
theorem wpUP_two {l : List Oper} {k1 k2 : Nat} {p1 p2 : UPlan} {o1 o2 : Oper} {a : Act} {w : World} (h1 : l[k1]? = some o1) (h2 : l[k2]? = some o2)
    (g1 : ∀ w', Up w w' → wpList P l.toArray (Exit.then (fun a'' w'' => Up w' w'' ∧ wpUP P l Q p1 a'' w'') Q) [o1] a w')
    (g2 : ∀ w', Up w w' → wpList P l.toArray (Exit.then (fun a'' w'' => Up w' w'' ∧ wpUP P l Q p2 a'' w'') Q) [o2] a w') : wpUP P l Q (.two k1 p1 k2 p2) a w := by
  simp only [wpUP, h1, h2]; exact ⟨g1, g2⟩
theorem wpUP.up {l : List Oper} : ∀ {p : UPlan} {a : Act} {w w' : World}, wpUP P l Q p a w → Up w w' → wpUP P l Q p a w'
  | .done, a, w, w', h, hu => fun w'' h' => h w'' (hu.trans h')
  | .q k p, a, w, w', h, hu => by
    simp only [wpUP] at h ⊢
    cases hk : l[k]? with
    | none => rw [hk] at h; exact h.elim
    | some o =>
      rw [hk] at h
      obtain ⟨v, h1, h2⟩ := h
      exact ⟨v, h1.up hu, h2.up hu⟩
  | .one k p, a, w, w', h, hu => by
    simp only [wpUP] at h ⊢
    cases hk : l[k]? with
    | none => rw [hk] at h; exact h.elim
    | some o => rw [hk] at h; exact fun w'' h' => h w'' (hu.trans h')
  | .two k1 p1 k2 p2, a, w, w', h, hu => by
    simp only [wpUP] at h ⊢
    refine ⟨?_, ?_⟩
    · have h := h.1
      cases hk : l[k1]? with
      | none => rw [hk] at h; exact h.elim
      | some o => rw [hk] at h; exact fun w'' h' => h w'' (hu.trans h')
    · have h := h.2
      cases hk : l[k2]? with
      | none => rw [hk] at h; exact h.elim
      | some o => rw [hk] at h; exact fun w'' h' => h w'' (hu.trans h')
theorem wpAnyU_plan {l : List Oper} (hsel : Region.noSelect l.toArray = true) (hQ : ∀ c (a : Act) (d : Option Tmp) v w, Q (.panic c) (a.put d v) w → Q (.panic c) a w) :
    ∀ (p : UPlan) (f : Nat) (listed : Array Bool) (a : Act) (w : World), p.check md l.toArray f listed = true → wpUP P l Q p a w → wpAnyU P md l.toArray Q f listed a w
  | .done, 0, listed, a, w, hB, h => ⟨by simpa [UPlan.check] using hB, h⟩
  | .done, f + 1, listed, a, w, hB, h => by simp [UPlan.check] at hB
  | .q k p, 0, listed, a, w, hB, h => by simp [UPlan.check] at hB
  | .one k p, 0, listed, a, w, hB, h => by simp [UPlan.check] at hB
  | .two _ _ _ _, 0, listed, a, w, hB, h => by simp [UPlan.check] at hB
  | .q k p, f + 1, listed, a, w, hB, h => by
    simp only [UPlan.check, Bool.and_eq_true] at hB
    obtain ⟨⟨hr, hf⟩, hB'⟩ := hB
    simp only [wpUP] at h
    cases hk : l[k]? with
    | none => rw [hk] at h; exact h.elim
    | some o =>
      rw [hk] at h
      obtain ⟨v, h1, h2⟩ := h
      have h0 : l.toArray[k]? = some o := by simpa using hk
      exact wpAnyU_first h0 (Region.noSelect_spec hsel) hQ f listed a w (Region.free_spec h0 hf) (by simpa using hr) h1 (wpAnyU_plan hsel hQ p f _ _ w hB' h2)
  | .one k p, f + 1, listed, a, w, hB, h => by
    simp only [UPlan.check, Bool.and_eq_true, decide_eq_true_eq] at hB
    obtain ⟨hr, hB'⟩ := hB
    simp only [wpUP] at h
    cases hk : l[k]? with
    | none => rw [hk] at h; exact h.elim
    | some o =>
      rw [hk] at h
      have h0 : l.toArray[k]? = some o := by simpa using hk
      intro w' hu
      refine ⟨fun e => (by rw [hr] at e; cases e), fun i hi => ?_⟩
      rw [hr] at hi
      obtain rfl : i = k := by simpa using hi
      exact wpOp_mono (fun a' w'' h' => ⟨h'.1, wpAnyU_plan hsel hQ p f _ a' w'' hB' h'.2⟩) (wpOp_of_one h0 (h w' hu))
  | .two k1 p1 k2 p2, f + 1, listed, a, w, hB, h => by
    simp only [UPlan.check, Bool.and_eq_true, decide_eq_true_eq] at hB
    obtain ⟨⟨hr, hB1⟩, hB2⟩ := hB
    simp only [wpUP] at h
    obtain ⟨g1, g2⟩ := h
    cases hk1 : l[k1]? with
    | none => rw [hk1] at g1; exact g1.elim
    | some o1 =>
      cases hk2 : l[k2]? with
      | none => rw [hk2] at g2; exact g2.elim
      | some o2 =>
        rw [hk1] at g1
        rw [hk2] at g2
        have e1 : l.toArray[k1]? = some o1 := by simpa using hk1
        have e2 : l.toArray[k2]? = some o2 := by simpa using hk2
        intro w' hu
        refine ⟨fun e => (by rw [hr] at e; cases e), fun i hi => ?_⟩
        rw [hr] at hi
        rcases (show i = k1 ∨ i = k2 by simpa using hi) with rfl | rfl
        · exact wpOp_mono (fun a' w'' h' => ⟨h'.1, wpAnyU_plan hsel hQ p1 f _ a' w'' hB1 h'.2⟩) (wpOp_of_one e1 (g1 w' hu))
        · exact wpOp_mono (fun a' w'' h' => ⟨h'.1, wpAnyU_plan hsel hQ p2 f _ a' w'' hB2 h'.2⟩) (wpOp_of_one e2 (g2 w' hu))
/-- The region. -/
theorem region_up {id : Nat} {a : Act} {w : World} {l : List Oper} (p : UPlan) (hm : P.follows .mixedOrders = true) (hB : upB .any l.toArray p = true)
    (hQ : ∀ c (a : Act) (d : Option Tmp) v w, Q (.panic c) (a.put d v) w → Q (.panic c) a w) (h : wpUP P l Q p a w) : (Code.region id l.toArray true).wp P Q a w := by
  simp only [upB, Bool.and_eq_true] at hB
  refine wp_region_any hm (wpAny_of_U _ _ _ _ (wpAnyU_plan hB.1 hQ p _ _ a _ hB.2 (h.up ?_)))
  exact ⟨rfl, rfl, rfl, Nat.le_refl _, fun _ _ => rfl⟩
theorem UW.inh (w : World) : Nonempty (UW w) := ⟨⟨w, Up.refl w⟩⟩
end
end Go.Troupe
