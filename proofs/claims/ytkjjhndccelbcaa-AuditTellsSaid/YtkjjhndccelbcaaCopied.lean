/- copied and Find, by contracts: a kind in new memory. -/
import Derived.Test.YtkjjhndccelbcaaKinds
import Derived.Test.YtkjjhndccelbcaaPlan
namespace Go.Proofs.Ytkjjhndccelbcaa
open Go.RowKit Go.Maps Go.Troupe
attribute [local go_sem] reads readAt readUpon Cls

inductive All2 {α β : Type} (R : α → β → Prop) : List α → List β → Prop
  | nil : All2 R [] []
  | cons {x : α} {y : β} {l : List α} {l' : List β} : R x y → All2 R l l' → All2 R (x :: l) (y :: l')
theorem All2.len {α β : Type} {R : α → β → Prop} {l : List α} {l' : List β} (h : All2 R l l') : l'.length = l.length := by
  induction h with
  | nil => rfl
  | cons _ _ ih => rw [List.length_cons, List.length_cons, ih]
theorem All2.snoc {α β : Type} {R : α → β → Prop} {l : List α} {l' : List β} (h : All2 R l l') {x : α} {y : β} (hxy : R x y) : All2 R (l ++ [x]) (l' ++ [y]) := by
  induction h with
  | nil => exact .cons hxy .nil
  | cons h1 _ ih => exact .cons h1 ih
theorem All2.mem {α β : Type} {R : α → β → Prop} {l : List α} {l' : List β} (h : All2 R l l') {y : β} (hy : y ∈ l') : ∃ x, x ∈ l ∧ R x y := by
  induction h with
  | nil => cases hy
  | @cons x0 y0 l l' h1 _ ih =>
    rcases List.mem_cons.1 hy with rfl | hy
    · exact ⟨x0, List.mem_cons_self .., h1⟩
    · obtain ⟨x, hx, hr⟩ := ih hy
      exact ⟨x, List.mem_cons_of_mem _ hx, hr⟩
theorem All2.at_ {α β : Type} {R : α → β → Prop} {l : List α} {l' : List β} (h : All2 R l l') : ∀ {i : Nat} {x : α}, l[i]? = some x → ∃ y, l'[i]? = some y ∧ R x y := by
  induction h with
  | nil => intro i x hx; simp at hx
  | @cons x0 y0 l l' h1 _ ih =>
    intro i x hx
    cases i with
    | zero => simp at hx; subst hx; exact ⟨y0, rfl, h1⟩
    | succ i => exact ih (by simpa using hx)
theorem take_one {α : Type} (l : List α) (m : Nat) (x : α) (h : l[m]? = some x) : l.take (m + 1) = l.take m ++ [x] := by
  obtain ⟨hm, rfl⟩ := List.getElem?_eq_some_iff.1 h
  rw [List.take_succ_eq_append_getElem hm]

structure SameR (r r' : Rw) : Prop where
  tag : r'.tag = r.tag
  only : r'.only = r.only
  n : r'.n = r.n
  effs : r'.effs = r.effs
structure SameS (s s' : St) : Prop where
  name : s'.name = s.name
  rows : All2 SameR s.rows s'.rows
structure SameK (k k' : Kf) : Prop where
  name : k'.name = k.name
  limit : k'.limit = k.limit
  within : k'.within = k.within
  cases : k'.cases = k.cases
  sts : All2 SameS k.sts k'.sts
def RwOwn (w : World) (base : Nat) (r : Rw) : Prop := w.ownsRow base 57 7 (.slice r.A r.effs.length r.cap) r.effs.length (flatE r.effs)
def StOwn (w : World) (base : Nat) (s : St) : Prop := w.ownsRow base 60 4 (.slice s.A s.rows.length s.cap) s.rows.length (flatR s.rows) ∧ ∀ r ∈ s.rows, RwOwn w base r
/-- A kind in memory of the call's own. -/
structure KOwn (w : World) (base : Nat) (k : Kf) : Prop where
  cases : w.ownsRow base 103 2 (.slice k.Ac k.cases.length k.cc) k.cases.length (flatC k.cases)
  sts : w.ownsRow base 63 2 (.slice k.A k.sts.length k.cap) k.sts.length (flatS k.sts)
  all : ∀ s ∈ k.sts, StOwn w base s
theorem StOwn.below {w w' : World} {base : Nat} {s : St} (h : StOwn w base s) (hb : Below w.heap.size w w') : StOwn w' base s := ⟨own_below h.1 hb, fun r hr => own_below (h.2 r hr) hb⟩
theorem KOwn.below {w w' : World} {base : Nat} {k : Kf} (h : KOwn w base k) (hb : Below w.heap.size w w') : KOwn w' base k := ⟨own_below h.cases hb, own_below h.sts hb, fun s hs => (h.all s hs).below hb⟩
theorem KOwn.base {w : World} {base b : Nat} {k : Kf} (h : KOwn w base k) (hb : b ≤ base) : KOwn w b k :=
  ⟨Go.Joins.ownsRow_le h.cases hb, Go.Joins.ownsRow_le h.sts hb, fun s hs => ⟨Go.Joins.ownsRow_le (h.all s hs).1 hb, fun r hr => Go.Joins.ownsRow_le ((h.all s hs).2 r hr) hb⟩⟩
theorem own_none {w : World} {base n c size : Nat} {e : TypeId} {A : Option Addr} {xs : List Value} (h : w.ownsRow base e size (.slice A n c) n xs) : A = none → c = 0 := by
  obtain ⟨A', c', e', -, -, -, hnil, -⟩ := own_form h
  simp only [Value.slice.injEq, true_and] at e'
  obtain ⟨rfl, rfl⟩ := e'
  exact fun h => (hnil h).2
/-- Such a kind is one that lies in memory. -/
theorem KOwn.in_ {w : World} {base : Nat} {k0 k : Kf} (h : KOwn w base k) (hs : SameK k0 k) {w0 : World} {B : Nat} (h0 : KfIn w0 B k0) : KfIn w w.heap.size k := by
  refine ⟨⟨own_cells h.cases, own_none h.cases, by rw [hs.cases]; exact h0.1.2.2⟩, own_cells h.sts, own_none h.sts, fun s hs' => ?_, by rw [hs.sts.len]; exact h0.2.2.2.2⟩
  obtain ⟨s0, hm, hss⟩ := hs.sts.mem hs'
  obtain ⟨-, -, hr0, hl0⟩ := h0.2.2.2.1 s0 hm
  refine ⟨own_cells (h.all s hs').1, own_none (h.all s hs').1, fun r hr => ?_, by rw [hss.rows.len]; exact hl0⟩
  obtain ⟨r0, hrm, hrr⟩ := hss.rows.mem hr
  exact ⟨own_cells ((h.all s hs').2 r hr), own_none ((h.all s hs').2 r hr), by rw [hrr.effs]; exact (hr0 r0 hrm).2.2⟩

/-- One cell of an own row, written over. -/
theorem own_set {w : World} {base n c g size o : Nat} {e : TypeId} {xs : List Value} (h : w.ownsRow base e size (.slice (some ⟨g, 0, none⟩) n c) n xs) (u : Value) :
    (w.setCell ⟨g, o, none⟩ u).ownsRow base e size (.slice (some ⟨g, 0, none⟩) n c) n (xs.set o u) := by
  rcases own_blk h with ⟨h', -⟩ | ⟨g', cs, he, hb, hl, hg, hn, hc, ht⟩
  · cases h'
  · simp only [Option.some.injEq, Addr.mk.injEq, and_true] at he
    subst he
    have := blk_own (base := base) (n := n) (cap := c) (size := size) (hb.set_ o u) (by rw [List.length_set]; exact hl) hg hn hc
    rwa [List.take_set, ht] at this
theorem flat_set1 {α : Type} (f : α → List Value) (sz : Nat) (hf : ∀ x, (f x).length = sz) (l : List α) (i : Nat) (x z : α) (q : Nat) (u : Value) (hq : q < sz) (hx : l[i]? = some x) (hz : f z = (f x).set q u) :
    (l.flatMap f).set (i * sz + q) u = (l.set i z).flatMap f := by
  induction l generalizing i with
  | nil => simp at hx
  | cons y l ih =>
    cases i with
    | zero =>
      simp at hx; subst hx
      rw [List.set_cons_zero, List.flatMap_cons, List.flatMap_cons, Nat.zero_mul, Nat.zero_add, List.set_append_left _ _ (by rw [hf]; exact hq), hz]
    | succ i =>
      rw [List.set_cons_succ, List.flatMap_cons, List.flatMap_cons, List.set_append_right _ _ (by rw [hf, Nat.add_mul]; omega), hf, ← ih i (by simpa using hx)]
      congr 2
      rw [Nat.add_mul]; omega
theorem mid_get {α : Type} (a b : List α) (x : α) (i : Nat) (h : a.length = i) : (a ++ x :: b)[i]? = some x := by
  subst h; simp
theorem mid_set {α : Type} (a b : List α) (x z : α) (i : Nat) (h : a.length = i) : (a ++ x :: b).set i z = a ++ z :: b := by
  subst h; simp

def zK : List Value := [.string ⟨#[]⟩, .int .i64 0, .int .i64 0, .slice none 0 0, .slice none 0 0]
/-- What stands between two states. -/
structure CI (w wr : World) (g1 g2 : Nat) (k : Kf) (Ac : Option Addr) (cc : Nat) (A : Option Addr) (c : Nat) (don : List St) (i : Nat) : Prop where
  b1 : Blk wr g1 67 [.string k.name, .int .i64 k.limit, .int .i64 k.within, .slice Ac k.cases.length cc, .slice A k.sts.length c]
  b2 : Blk wr g2 67 zK
  oc : wr.ownsRow w.heap.size 103 2 (.slice Ac k.cases.length cc) k.cases.length (flatC k.cases)
  os : wr.ownsRow w.heap.size 63 2 (.slice A k.sts.length c) k.sts.length (flatS (don ++ k.sts.drop i))
  dl : don.length = i
  rel : All2 SameS (k.sts.take i) don
  own : ∀ s ∈ don, StOwn wr w.heap.size s
  be : Below w.heap.size w wr
  h1 : w.heap.size ≤ g1
  h2 : w.heap.size ≤ g2
  ne : g1 ≠ g2
/-- What stands between two rows of a state. -/
structure RI (w wb wr : World) (gS : Nat) (k : Kf) (c : Nat) (don : List St) (i : Nat) (s : St) (AR : Option Addr) (cR : Nat) (rdon : List Rw) (j : Nat) : Prop where
  fr : Frm (fun x => x = gS) wb wr
  os : wr.ownsRow w.heap.size 63 2 (.slice (some ⟨gS, 0, none⟩) k.sts.length c) k.sts.length (flatS (don ++ ⟨s.name, s.rows, AR, cR⟩ :: k.sts.drop (i + 1)))
  orow : wr.ownsRow wb.heap.size 60 4 (.slice AR s.rows.length cR) s.rows.length (flatR (rdon ++ s.rows.drop j))
  rdl : rdon.length = j
  rel : All2 SameR (s.rows.take j) rdon
  rown : ∀ r ∈ rdon, RwOwn wr wb.heap.size r
section
variable {w wb wr w' : World} {gS gR c i cR j : Nat} {k : Kf} {don : List St} {s : St} {rdon : List Rw}
theorem RI.below {AR : Option Addr} (h : RI w wb wr gS k c don i s AR cR rdon j) (hb : Below wr.heap.size wr w') : RI w wb w' gS k c don i s AR cR rdon j :=
  ⟨h.fr.trans (Frm.of_below hb) (fun x hx h' => by have := h.fr.size; omega), own_below h.os hb, own_below h.orow hb, h.rdl, h.rel, fun r hr => own_below (h.rown r hr) hb⟩
theorem RI.next (h : RI w wb wr gS k c don i s (some ⟨gR, 0, none⟩) cR rdon j) {r : Rw} (hr : s.rows[j]? = some r) {Ae : Option Addr} {ce : Nat} (ho : wr.ownsRow wb.heap.size 57 7 (.slice Ae r.effs.length ce) r.effs.length (flatE r.effs)) :
    RI w wb (wr.setCell ⟨gR, j * 4 + 3, none⟩ (.slice Ae r.effs.length ce)) gS k c don i s (some ⟨gR, 0, none⟩) cR (rdon ++ [⟨r.tag, r.only, r.n, r.effs, Ae, ce⟩]) (j + 1) := by
  have F : Frm (fun x => x = gR) wr (wr.setCell ⟨gR, j * 4 + 3, none⟩ (.slice Ae r.effs.length ce)) := Frm.one wr ⟨gR, j * 4 + 3, none⟩ _
  obtain ⟨cR', hbR⟩ := own_at h.orow (b := gR) (by
    have := h.orow
    simp [Value.ownBlock])
  have hdrop : s.rows.drop j = r :: s.rows.drop (j + 1) := by
    obtain ⟨hj, rfl⟩ := List.getElem?_eq_some_iff.1 hr
    rw [List.drop_eq_getElem_cons hj]
  have hgR := (h.orow.lt gR (by simp [Value.ownBlock])).1
  have hs := own_set (o := j * 4 + 3) h.orow (.slice Ae r.effs.length ce)
  rw [hdrop] at hs
  have e1 := flat_set1 Rw.cells 4 (fun _ => rfl) (rdon ++ r :: s.rows.drop (j + 1)) j r ⟨r.tag, r.only, r.n, r.effs, Ae, ce⟩ 3 (.slice Ae r.effs.length ce) (by decide) (mid_get _ _ _ _ h.rdl) rfl
  rw [mid_set _ _ _ _ _ h.rdl] at e1
  unfold flatR at hs
  rw [e1] at hs
  refine ⟨h.fr.trans F (fun x hx h' => by omega), own_frm h.os F (fun b hb e => ?_), ?_, by simp [h.rdl], ?_, fun x hx => ?_⟩
  · obtain ⟨cs, hbk⟩ := own_at h.os hb
    exact hbk.ne hbR (by decide) e
  · simpa [flatR] using hs
  · rw [take_one _ _ _ hr]; exact h.rel.snoc ⟨rfl, rfl, rfl, rfl⟩
  · have hk : ∀ y : Rw, RwOwn wr wb.heap.size y → RwOwn (wr.setCell ⟨gR, j * 4 + 3, none⟩ (.slice Ae r.effs.length ce)) wb.heap.size y := fun y hy => own_frm hy F (fun b hb e => by
      obtain ⟨cs, hbk⟩ := own_at hy hb
      exact hbk.ne hbR (by decide) e)
    rcases List.mem_append.1 hx with hx | hx
    · exact hk x (h.rown x hx)
    · rw [List.mem_singleton] at hx; subst hx
      exact hk _ ho
end
theorem CI.below {w wr w' : World} {g1 g2 cc c i : Nat} {k : Kf} {Ac A : Option Addr} {don : List St} (h : CI w wr g1 g2 k Ac cc A c don i) (hb : Below wr.heap.size wr w') : CI w w' g1 g2 k Ac cc A c don i :=
  ⟨h.b1.below hb h.b1.lt, h.b2.below hb h.b2.lt, own_below h.oc hb, own_below h.os hb, h.dl, h.rel, fun s hs => (h.own s hs).below hb, h.be.trans (hb.mono h.be.size), h.h1, h.h2, h.ne⟩
/-- A state is done. -/
theorem CI.next {w wb wr : World} {g1 g2 cc c i gS cR : Nat} {AR : Option Addr} {k : Kf} {Ac : Option Addr} {don : List St} {s : St} {rdon : List Rw} (h : CI w wb g1 g2 k Ac cc (some ⟨gS, 0, none⟩) c don i) (hs : k.sts[i]? = some s)
    (hr : RI w wb wr gS k c don i s AR cR rdon s.rows.length) : CI w wr g1 g2 k Ac cc (some ⟨gS, 0, none⟩) c (don ++ [⟨s.name, rdon, AR, cR⟩]) (i + 1) := by
  obtain ⟨cs, hbS⟩ := own_at h.os (b := gS) (by simp [Value.ownBlock])
  have hgS := (h.os.lt gS (by simp [Value.ownBlock])).1
  have hw := h.be.size
  have hwb : w.heap.size ≤ wb.heap.size := h.be.size
  have hlen : rdon.length = s.rows.length := by have := hr.rel.len; rwa [List.take_length] at this
  have hown : ∀ x, StOwn wb w.heap.size x → StOwn wr w.heap.size x := fun x hx => by
    refine ⟨own_frm hx.1 hr.fr (fun b hb e => ?_), fun r hrx => own_frm (hx.2 r hrx) hr.fr (fun b hb e => ?_)⟩
    · obtain ⟨cs', hbk⟩ := own_at hx.1 hb
      exact hbk.ne hbS (by decide) e
    · obtain ⟨cs', hbk⟩ := own_at (hx.2 r hrx) hb
      exact hbk.ne hbS (by decide) e
  refine ⟨h.b1.frm hr.fr (h.b1.ne hbS (by decide)), h.b2.frm hr.fr (h.b2.ne hbS (by decide)), own_frm h.oc hr.fr (fun b hb e => ?_), ?_, by simp [h.dl], ?_, fun x hx => ?_, h.be.trans (hr.fr.below h.be.size (fun x hx => by omega)), h.h1, h.h2, h.ne⟩
  · obtain ⟨cs', hbk⟩ := own_at h.oc hb
    exact hbk.ne hbS (by decide) e
  · have := hr.os
    have e1 : flatS ((don ++ [⟨s.name, rdon, AR, cR⟩]) ++ k.sts.drop (i + 1)) = flatS (don ++ ⟨s.name, s.rows, AR, cR⟩ :: k.sts.drop (i + 1)) := by
      simp [flatS, St.cells, hlen]
    rw [e1]
    exact this
  · rw [take_one _ _ _ hs]
    refine h.rel.snoc ⟨rfl, ?_⟩
    have := hr.rel
    rwa [List.take_length] at this
  · rcases List.mem_append.1 hx with hx | hx
    · exact hown x (h.own x hx)
    · rw [List.mem_singleton] at hx; subst hx
      refine ⟨?_, fun r hrx => Go.Joins.ownsRow_le (hr.rown r hrx) hwb⟩
      have := Go.Joins.ownsRow_le hr.orow hwb
      rw [List.drop_length, List.append_nil] at this
      dsimp only
      rw [hlen]
      exact this
def Copied (k : Kf) (w : World) (e : Ending) (w' : World) : Prop := ∃ k' : Kf, e = .returned k'.val ∧ SameK k k' ∧ KOwn w' w.heap.size k' ∧ Below w.heap.size w w'
theorem size67 : (Try.prog.info? 67).map (·.size) = some 5 := by kernel_rfl
set_option maxRecDepth 100000 in
set_option maxHeartbeats 4000000 in
theorem copied_any (k : Kf) (w : World) (hk : KfIn w w.heap.size k) : Calls Try.prog 60 #[k.val] w (Copied k w) := by
  obtain ⟨kn, kl, kw, cases_, Ac, cc, sts, A, cap⟩ := k
  obtain ⟨⟨hc1, hc2, hc3⟩, hs1, hs2, hs3, hs4⟩ := hk
  dsimp only at hc1 hc2 hc3 hs1 hs2 hs3 hs4
  obtain ⟨wA, hwA⟩ : ∃ wA, wA = (w.alloc (.cells #[.string kn, .int .i64 kl, .int .i64 kw, .slice Ac cases_.length cc, .slice A sts.length cap] 67)).alloc (.cells #[.string ⟨#[]⟩, .int .i64 0, .int .i64 0, .slice none 0 0, .slice none 0 0] 67) := ⟨_, rfl⟩
  have b0 : Below w.heap.size w wA := by rw [hwA]; exact ((Below.refl _ w).alloc (Nat.le_refl _) _).alloc (by simp) _
  have k1 : Blk wA w.heap.size 67 [.string kn, .int .i64 kl, .int .i64 kw, .slice Ac cases_.length cc, .slice A sts.length cap] := by rw [hwA]; exact (Blk.new w 67 [.string kn, .int .i64 kl, .int .i64 kw, .slice Ac cases_.length cc, .slice A sts.length cap]).alloc _
  have k2 : Blk wA (w.heap.size + 1) 67 zK := by rw [hwA]; simpa [zK] using Blk.new (w.alloc (.cells #[.string kn, .int .i64 kl, .int .i64 kw, .slice Ac cases_.length cc, .slice A sts.length cap] 67)) 67 zK
  have hz := b0.size
  have CC := Troupe.hid (cloneC_any Ac cases_.length cc wA.heap.size cases_ wA rfl hc3 ((hc1.below b0).mono hz) (none_len (by decide) hc1 (flatC_length cases_) hc2))
  have HS1 := Troupe.hid hs1
  have HS3 := Troupe.hid hs3
  have hsn := Troupe.hid (none_len (by decide) hs1 (flatS_length sts) hs2)
  have e1 := k1.cell
  have WA := Troupe.hid hwA
  have B0 := Troupe.hid b0
  have K1 := Troupe.hid k1
  have K2 := Troupe.hid k2
  clear hc1 hc2 hs1 hs2 hs3 b0 k1 k2 hwA
  dsimp only [Kf.val]
  go_enter Try.func60, Try.ntmps60
  go_wp2_with fail
  rw [← WA.out]
  clear WA
  obtain ⟨g2, hg2⟩ : ∃ g2, g2 = w.heap.size + 1 := ⟨_, rfl⟩
  rw [← hg2] at K2 ⊢
  have hg2a : w.heap.size < g2 := by omega
  clear hg2
  refine CC.out.mono ?_
  rintro e w1 ⟨v1, rfl, ho1, hb1⟩
  have B1 := Troupe.hid (B0.out.trans (hb1.mono hz))
  have O1 := Troupe.hid (Go.Joins.ownsRow_le ho1 hz)
  have k11 := K1.out.below hb1 K1.out.lt
  have K11 := Troupe.hid k11
  have K21 := Troupe.hid (K2.out.below hb1 K2.out.lt)
  obtain ⟨Ac', cc', rfl, -⟩ := own_form ho1
  have e2 := k11.cell
  have f2 := k11.frozen
  have F2 : Frm (fun x => x = w.heap.size) w1 (w1.setCell ⟨w.heap.size, 3, none⟩ (.slice Ac' cases_.length cc')) := Frm.one w1 ⟨w.heap.size, 3, none⟩ _
  have k12 := k11.set_ 3 (.slice Ac' cases_.length cc')
  have B2 : Below w.heap.size w (w1.setCell ⟨w.heap.size, 3, none⟩ (.slice Ac' cases_.length cc')) := B1.out.trans (F2.below B1.out.size (fun x hx => by omega))
  have hz2 := B2.size
  have CS := Troupe.hid (cloneS_any A sts.length cap (w1.setCell ⟨w.heap.size, 3, none⟩ (.slice Ac' cases_.length cc')).heap.size sts (w1.setCell ⟨w.heap.size, 3, none⟩ (.slice Ac' cases_.length cc')) rfl hs4 ((HS1.out.below B2).mono hz2) hsn.out)
  have O2 := Troupe.hid (own_frm O1.out F2 (fun b hb e => by
    obtain ⟨cs, hbk⟩ := own_at O1.out hb
    exact hbk.ne k11 (by decide) e))
  have e3 := k12.cell
  have K12 := Troupe.hid k12
  have K22 := Troupe.hid (K21.out.frm F2 (by omega))
  have HB2 := Troupe.hid B2
  clear hb1 ho1 k11 k12 F2 B2 e1 K1 K2 K11 K21 O1 B1 CC
  dsimp only [List.set_cons_zero, List.set_cons_succ] at K12 e3
  go_wp2_with fail
  clear e2 f2
  generalize w1.setCell ⟨w.heap.size, 3, none⟩ (.slice Ac' cases_.length cc') = w2 at *
  refine CS.out.mono ?_
  rintro e w3 ⟨v3, rfl, ho3, hb3⟩
  obtain ⟨A', c', rfl, -⟩ := own_form ho3
  have k13 := K12.out.below hb3 K12.out.lt
  have e4 := k13.cell
  have f4 := k13.frozen
  have F4 : Frm (fun x => x = w.heap.size) w3 (w3.setCell ⟨w.heap.size, 4, none⟩ (.slice A' sts.length c')) := Frm.one w3 ⟨w.heap.size, 4, none⟩ _
  have b3 := HB2.out.trans (hb3.mono hz2)
  have o13 := own_below O2.out hb3
  have C0 : CI w (w3.setCell ⟨w.heap.size, 4, none⟩ (.slice A' sts.length c')) w.heap.size g2 ⟨kn, kl, kw, cases_, Ac, cc, sts, A, cap⟩ Ac' cc' A' c' [] 0 :=
    ⟨k13.set_ 4 _, (K22.out.below hb3 K22.out.lt).frm F4 (by omega), own_frm o13 F4 (fun b hb e => by
      obtain ⟨cs, hbk⟩ := own_at o13 hb
      exact hbk.ne k13 (by decide) e), own_frm (Go.Joins.ownsRow_le ho3 hz2) F4 (fun b hb e => by
      obtain ⟨cs, hbk⟩ := own_at ho3 hb
      exact hbk.ne k13 (by decide) e), rfl, by rw [List.take_zero]; exact .nil, (fun s hs => by simp at hs), b3.trans (F4.below b3.size (fun x hx => by omega)), Nat.le_refl _, by omega, by omega⟩
  have HC0 := Troupe.hid C0
  have e5 := C0.b1.cell
  clear hb3 ho3 k13 F4 b3 o13 C0 K12 K22 O2 HB2 CS e3
  go_wp2_with fail
  clear e4 f4
  generalize w3.setCell ⟨w.heap.size, 4, none⟩ (.slice A' sts.length c') = w4 at *
  clear e5
  go_loopw [17] (fun v17 wr => ∃ (i : Nat) (don : List St), v17 = .int .i64 i ∧ i ≤ sts.length ∧ CI w wr w.heap.size g2 ⟨kn, kl, kw, cases_, Ac, cc, sts, A, cap⟩ Ac' cc' A' c' don i) (fun v17 _ => sts.length - (intOf v17).toNat)
  case atStart => exact ⟨0, [], rfl, Nat.zero_le _, HC0.out⟩
  case round =>
    obtain ⟨i, don, rfl, hi, hci⟩ := hrel
    obtain ⟨wb, rfl⟩ : ∃ wb : World, wb = wr := ⟨_, rfl⟩
    have e1 := hci.b1.cell
    dsimp only at e1
    have HCI := Troupe.hid hci
    clear hci
    by_cases hlt : i < sts.length
    · obtain ⟨s, hx⟩ : ∃ s, sts[i]? = some s := ⟨_, List.getElem?_eq_getElem hlt⟩
      have hdrop : sts.drop i = s :: sts.drop (i + 1) := by
        obtain ⟨hj, rfl⟩ := List.getElem?_eq_some_iff.1 hx
        rw [List.drop_eq_getElem_cons hj]
      have hos := HCI.out.os
      dsimp only at hos
      rw [hdrop] at hos
      have hcur := mid_get don (sts.drop (i + 1)) s i HCI.out.dl
      obtain ⟨b1, o1, hA1, _, hcc⟩ := cells_at (sz := 2) (fun _ => rfl) (by decide) (own_cells hos) hcur
      rcases own_blk hos with ⟨h', -⟩ | ⟨gS, csS, hgS, hbS, hclS, hgSb, -, -, -⟩
      · rw [hA1] at h'; cases h'
      rw [hgS] at hA1
      simp only [Option.some.injEq, Addr.mk.injEq, and_true] at hA1
      obtain ⟨rfl, rfl⟩ := hA1
      subst hgS
      obtain ⟨hr1, hr2, hr3, hr4⟩ := HS3.out s (List.mem_of_getElem? hx)
      have hbw := HCI.out.be
      have hzb := hbw.size
      have c1 : wb.cell? ⟨gS, i * 2 + 1, none⟩ = some (.slice s.A s.rows.length s.cap) := by have := hcc 1 (by decide) _ rfl; rwa [Nat.zero_add] at this
      have fS := hbS.frozen
      have CR := Troupe.hid (cloneR_any s.A s.rows.length s.cap wb.heap.size s.rows wb rfl hr4 ((hr1.below hbw).mono hzb) (none_len (by decide) hr1 (flatR_length s.rows) hr2))
      have hi3 : i < 140737488355328 := by omega
      have HX := Troupe.hid hx
      have HOS := Troupe.hid hos
      have HR3 := Troupe.hid hr3
      have HBS := Troupe.hid hbS
      clear hx hdrop hos hcur hcc hbS hr1 hr2 hr3 hbw fS
      go_wp2_with fail
      refine CR.out.mono ?_
      rintro e w5 ⟨v5, rfl, ho5, hb5⟩
      obtain ⟨AR, cR, rfl, -⟩ := own_form ho5
      have bS5 := HBS.out.below hb5 HBS.out.lt
      have f5 := bS5.frozen
      have l5 := bS5.cell
      have F6 : Frm (fun x => x = gS) w5 (w5.setCell ⟨gS, i * 2 + 1, none⟩ (.slice AR s.rows.length cR)) := Frm.one w5 ⟨gS, i * 2 + 1, none⟩ _
      have R6 : RI w wb (w5.setCell ⟨gS, i * 2 + 1, none⟩ (.slice AR s.rows.length cR)) gS ⟨kn, kl, kw, cases_, Ac, cc, sts, A, cap⟩ c' don i s AR cR [] 0 := by
        have h1 := own_set (o := i * 2 + 1) (own_below HOS.out hb5) (.slice AR s.rows.length cR)
        have e1 := flat_set1 St.cells 2 (fun _ => rfl) (don ++ s :: sts.drop (i + 1)) i s ⟨s.name, s.rows, AR, cR⟩ 1 (.slice AR s.rows.length cR) (by decide) (mid_get _ _ _ _ HCI.out.dl) rfl
        rw [mid_set _ _ _ _ _ HCI.out.dl] at e1
        unfold flatS at h1
        rw [e1] at h1
        refine ⟨((Frm.of_below hb5).mono (S' := fun x => x = gS) (fun x hx h' => by omega)).trans F6 (fun _ _ h => h), h1, own_frm ho5 F6 (fun b hb e => ?_), rfl, by rw [List.take_zero]; exact .nil, fun r hr => (by simp at hr)⟩
        obtain ⟨cs, hbk⟩ := own_at ho5 hb
        exact hbk.ne bS5 (by decide) e
      have HR6 := Troupe.hid R6
      have k5 : w5.cell? ⟨gS, i * 2 + 1, none⟩ = some (.slice s.A s.rows.length s.cap) := (hb5.cell (p := ⟨gS, i * 2 + 1, none⟩) HBS.out.lt).trans c1
      clear hb5 ho5 bS5 l5 F6 R6 CR
      go_wp2_with fail
      clear f5 c1 e1 k5
      generalize w5.setCell ⟨gS, i * 2 + 1, none⟩ (.slice AR s.rows.length cR) = w6 at *
      go_loopw [37] (fun v37 wr => ∃ (j : Nat) (rdon : List Rw), v37 = .int .i64 j ∧ j ≤ s.rows.length ∧ RI w wb wr gS ⟨kn, kl, kw, cases_, Ac, cc, sts, A, cap⟩ c' don i s AR cR rdon j) (fun v37 _ => s.rows.length - (intOf v37).toNat)
      case atStart => exact ⟨0, [], rfl, Nat.zero_le _, HR6.out⟩
      case round =>
        obtain ⟨j, rdon, rfl, hj, hri⟩ := hrel
        obtain ⟨wc, rfl⟩ : ∃ wc : World, wc = wr := ⟨_, rfl⟩
        have HRI := Troupe.hid hri
        clear hri
        by_cases hjl : j < s.rows.length
        · obtain ⟨r, hr⟩ : ∃ r, s.rows[j]? = some r := ⟨_, List.getElem?_eq_getElem hjl⟩
          have hdrop : s.rows.drop j = r :: s.rows.drop (j + 1) := by
            obtain ⟨hj, rfl⟩ := List.getElem?_eq_some_iff.1 hr
            rw [List.drop_eq_getElem_cons hj]
          have hor := HRI.out.orow
          rw [hdrop] at hor
          obtain ⟨b2, o2, hA2, _, hcR⟩ := cells_at (sz := 4) (fun _ => rfl) (by decide) (own_cells hor) (mid_get rdon (s.rows.drop (j + 1)) r j HRI.out.rdl)
          rcases own_blk hor with ⟨h', -⟩ | ⟨gR, csR, hgR, hbR, hclR, hgRb, -, -, -⟩
          · rw [hA2] at h'; cases h'
          rw [hgR] at hA2
          simp only [Option.some.injEq, Addr.mk.injEq, and_true] at hA2
          obtain ⟨rfl, rfl⟩ := hA2
          subst hgR
          obtain ⟨he1, he2, he3⟩ := HR3.out r (List.mem_of_getElem? hr)
          obtain ⟨bS, oS, hAS, hbSl, hcS⟩ := cells_at (sz := 2) (fun _ => rfl) (by decide) (own_cells HRI.out.os) (mid_get don (sts.drop (i + 1)) ⟨s.name, s.rows, some ⟨gR, 0, none⟩, cR⟩ i HCI.out.dl)
          simp only [Option.some.injEq, Addr.mk.injEq, and_true] at hAS
          obtain ⟨rfl, rfl⟩ := hAS
          have c1 : wc.cell? ⟨gS, i * 2 + 1, none⟩ = some (.slice (some ⟨gR, 0, none⟩) s.rows.length cR) := by have := hcS 1 (by decide) _ rfl; rwa [Nat.zero_add] at this
          have c2 : wc.cell? ⟨gR, j * 4 + 3, none⟩ = some (.slice r.A r.effs.length r.cap) := by have := hcR 3 (by decide) _ rfl; rwa [Nat.zero_add] at this
          have lS := block_lt_of_cell c1
          have lR := block_lt_of_cell c2
          have hj3 : j < 140737488355328 := by omega
          let S0 : World → Prop := fun w' => Below wc.heap.size wc w'
          have hne : Nonempty (SW S0) := ⟨⟨wc, Below.refl _ _⟩⟩
          have fs : ∀ x : SW S0, x.w.cell? ⟨gS, i * 2 + 1, none⟩ = some (.slice (some ⟨gR, 0, none⟩) s.rows.length cR) := fun x => (x.h.cell (p := ⟨gS, i * 2 + 1, none⟩) lS).trans c1
          have fr : ∀ x : SW S0, x.w.cell? ⟨gR, j * 4 + 3, none⟩ = some (.slice r.A r.effs.length r.cap) := fun x => (x.h.cell (p := ⟨gR, j * 4 + 3, none⟩) lR).trans c2
          have HE1 := Troupe.hid he1
          have HE2 := Troupe.hid he2
          have HBR := Troupe.hid hbR
          have HR := Troupe.hid hr
          have C2 := Troupe.hid c2
          clear hr hdrop hor hcR hcS hbR he1 he2 c1 c2
          go_wp2_with fail
          refine region_plan (S := Cls S0) (.read 0 (.read 1 (.read 2 (.read 3 (.read 4 (.read 5 (.read 6 (.read 7 (.read 8 (.read 9 (.read 10 (.read 11 (.read 12 (.one 13 .tail)))))))))))))) 14 (by kernel_rfl) (by kernel_rfl) (fun _ _ d _ _ h => by cases d <;> exact h) ?_
          intro w7 hh o1' o2' o3'
          have F7 : Below wc.heap.size wc w7 := (Frm.of_heap (S := fun _ => False) hh o1' o2' o3').below (Nat.le_refl _) (fun _ h => h.elim)
          clear hh o1' o2' o3'
          refine ⟨Cls.of F7, ?_⟩
          repeat (refine wpPlan_read rfl (fun K hK => ?_); go_simp; refine hK _ ?_; clear hK K)
          clear fs fr hne
          have hwc : wb.heap.size ≤ wc.heap.size := HRI.out.fr.size
          have RI7 := Troupe.hid (HRI.out.below F7)
          have HB7 := Troupe.hid (HBR.out.below F7 HBR.out.lt)
          have hbw := HCI.out.be.trans (HRI.out.fr.below HCI.out.be.size (fun x hx => by omega))
          have hb7 := hbw.trans (F7.mono hbw.size)
          have hce := (HE1.out.below hb7).mono hb7.size
          have HF7 := Troupe.hid F7
          have CE := Troupe.hid (cloneE_any r.A r.effs.length r.cap w7.heap.size r.effs w7 rfl he3 hce (none_len (by decide) HE1.out (flatE_length r.effs) HE2.out))
          clear F7 hce hbw hb7
          refine wpPlan_one rfl ?_
          go_wp2_with fail
          refine CE.out.mono ?_
          rintro e w8 ⟨v8, rfl, ho8, hb8⟩
          obtain ⟨Ae, ce, rfl, -⟩ := own_form ho8
          have F8 := Troupe.hid (HF7.out.trans (hb8.mono HF7.out.size))
          have b8 := HB7.out.below hb8 HB7.out.lt
          have f8 := b8.frozen
          have NX := Troupe.hid ((RI7.out.below hb8).next HR.out (Go.Joins.ownsRow_le ho8 (by have := HF7.out.size; omega)))
          have k8 : w8.cell? ⟨gR, j * 4 + 3, none⟩ = some (.slice r.A r.effs.length r.cap) := (F8.out.cell (p := ⟨gR, j * 4 + 3, none⟩) lR).trans C2.out
          clear ho8 hb8 b8 CE
          go_wp2_with fail
          refine ⟨Cls.of F8.out, ?_⟩
          refine wpPlan_tail ?_
          simp only [List.drop_succ_cons, List.drop_zero]
          go_wp2_with fail
          go_roundw
          case rel => exact ⟨j + 1, _, by go_num, by omega, NX.out⟩
          case measure => simp [intOf]; omega
        · obtain rfl : j = s.rows.length := by omega
          have DN := Troupe.hid (HCI.out.next HX.out HRI.out)
          go_wp2_with fail
          go_roundw
          case rel => exact ⟨i + 1, _, by go_num, by omega, DN.out⟩
          case measure => simp [intOf]; omega
    · obtain rfl : i = sts.length := by omega
      have b2 := HCI.out.b2
      have l2 := b2.cell
      have f2 := b2.frozen
      dsimp only [zK] at l2
      clear b2
      go_wp2_with fail
      (try simp only [Exit.inBlock, Exit.then])
      obtain ⟨s1, s2⟩ := set5 (b := .int .i64 0) (c := .int .i64 0) (d := .slice none 0 0) (e := .slice none 0 0) (a := .string ⟨#[]⟩) HCI.out.b2 (.string kn) (.int .i64 kl) (.int .i64 kw) (.slice Ac' cases_.length cc') (.slice A' sts.length c')
      refine bodyPost_ret (results_cell_row rfl _ _ g2 67 _ (0, 0) _ rfl s1 Try.underlying67 rfl size67) rfl ⟨⟨kn, kl, kw, cases_, Ac', cc', don, A', c'⟩, ?_, ?_, ?_, ?_⟩
      · unfold Kf.val
        dsimp only
        rw [HCI.out.dl]
      · refine ⟨rfl, rfl, rfl, rfl, ?_⟩
        have := HCI.out.rel
        rwa [List.take_length] at this
      · have hb2 := HCI.out.b2
        have oc := own_frm HCI.out.oc s2 (fun b hb e => by
          obtain ⟨cs, hbk⟩ := own_at HCI.out.oc hb
          exact hbk.ne hb2 (by decide) e)
        have os := own_frm HCI.out.os s2 (fun b hb e => by
          obtain ⟨cs, hbk⟩ := own_at HCI.out.os hb
          exact hbk.ne hb2 (by decide) e)
        dsimp only at os
        rw [List.drop_length, List.append_nil] at os
        refine ⟨oc, ?_, fun s hs => ?_⟩
        · dsimp only
          rw [HCI.out.dl]
          exact os
        · have h1 := HCI.out.own s hs
          refine ⟨own_frm h1.1 s2 (fun b hb e => ?_), fun r hr => own_frm (h1.2 r hr) s2 (fun b hb e => ?_)⟩
          · obtain ⟨cs, hbk⟩ := own_at h1.1 hb
            exact hbk.ne hb2 (by decide) e
          · obtain ⟨cs, hbk⟩ := own_at (h1.2 r hr) hb
            exact hbk.ne hb2 (by decide) e
      · exact HCI.out.be.trans (s2.below HCI.out.be.size (fun x hx => by omega))
end Go.Proofs.Ytkjjhndccelbcaa
