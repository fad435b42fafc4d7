/- Do by contract. -/
import Derived.Test.YtkjjhndccelbcaaRow
namespace Go.Proofs.Ytkjjhndccelbcaa
open Go.RowKit Go.Maps Go.Troupe

structure Pl where
  stash : Bool
  effs : List Eff
  state : ByteArray
  stop : Bool
  fail : ByteArray
/-- What is done, effect by effect. -/
def doGo (n : Int) (st0 : ByteArray) : Bool → List Eff → Pl → Pl
  | _, [], p => p
  | first, e :: es, p =>
    if e.d = 4 then (if first then ⟨true, [], st0, false, noS⟩ else doGo n st0 false es p)
    else if e.d = 3 then doGo n st0 false es { p with state := e.name }
    else if e.d = 11 then { p with stop := true }
    else if e.d = 12 then { p with fail := e.name }
    else if e.d = 1 ∨ e.d = 8 then doGo n st0 false es { p with effs := p.effs ++ [{ e with n := numV e n, v := 2 }] }
    else doGo n st0 false es { p with effs := p.effs ++ [e] }
def planV (sts : List St) (state tag : ByteArray) (n : Int) : Pl := match rowV sts state tag n with
  | none => ⟨false, [], state, false, noS⟩
  | some r => doGo n state true r.effs ⟨false, [], state, false, noS⟩
/-- A plan as a value. -/
def Pl.val (p : Pl) (v : Value) : Value := .agg #[.bool p.stash, v, .string p.state, .bool p.stop, .string p.fail]
def Done (p : Pl) (w : World) (e : Ending) (w' : World) : Prop :=
  ∃ v, e = .returned (p.val v) ∧ w'.ownsRow w.heap.size 57 7 v p.effs.length (flatE p.effs) ∧ Below w.heap.size w w'
theorem size87 : (Try.prog.info? 87).map (·.size) = some 5 := by kernel_rfl
theorem set5 {w : World} {g : Nat} {t : TypeId} {a b c d e : Value} (h : Blk w g t [a, b, c, d, e]) (x y z u v : Value) :
    Blk (((((w.setCell ⟨g, 0, none⟩ x).setCell ⟨g, 1, none⟩ y).setCell ⟨g, 2, none⟩ z).setCell ⟨g, 3, none⟩ u).setCell ⟨g, 4, none⟩ v) g t [x, y, z, u, v] ∧
      Frm (fun k => k = g) w (((((w.setCell ⟨g, 0, none⟩ x).setCell ⟨g, 1, none⟩ y).setCell ⟨g, 2, none⟩ z).setCell ⟨g, 3, none⟩ u).setCell ⟨g, 4, none⟩ v) :=
  ⟨((((h.set_ 0 x).set_ 1 y).set_ 2 z).set_ 3 u).set_ 4 v, ((((Frm.one w ⟨g, 0, none⟩ x).trans (Frm.one _ ⟨g, 1, none⟩ y) (fun _ _ h => h)).trans (Frm.one _ ⟨g, 2, none⟩ z) (fun _ _ h => h)).trans (Frm.one _ ⟨g, 3, none⟩ u) (fun _ _ h => h)).trans (Frm.one _ ⟨g, 4, none⟩ v) (fun _ _ h => h)⟩

/-- What stands between two effects. -/
structure DS (w wr : World) (g8 g9 : Nat) (A : Option Addr) (cA : Nat) (effs es : List Eff) (st : ByteArray) (Av : Option Addr) (cv : Nat) : Prop where
  b8 : Blk wr g8 87 [.bool false, .slice none 0 0, .string noS, .bool false, .string noS]
  b9 : Blk wr g9 87 [.bool false, .slice Av es.length cv, .string st, .bool false, .string noS]
  own : wr.ownsRow w.heap.size 57 7 (.slice Av es.length cv) es.length (flatE es)
  src : wr.ownsRow 0 57 7 (.slice A effs.length cA) effs.length (flatE effs)
  ap : ∀ b, (Value.slice Av es.length cv).ownBlock = some b → (Value.slice A effs.length cA).ownBlock ≠ some b
  ne : g8 ≠ g9
  h8 : w.heap.size ≤ g8
  h9 : w.heap.size ≤ g9
  be : Below w.heap.size w wr
section
variable {w wr w' : World} {g8 g9 cA cv : Nat} {A Av : Option Addr} {effs es : List Eff} {st : ByteArray}
theorem DS.frm {T : Nat → Prop} (h : DS w wr g8 g9 A cA effs es st Av cv) (hf : Frm T wr w') (hT : ∀ k, T k → wr.heap.size ≤ k) : DS w w' g8 g9 A cA effs es st Av cv :=
  ⟨h.b8.frm hf (fun e => by have := hT _ e; have := h.b8.lt; omega), h.b9.frm hf (fun e => by have := hT _ e; have := h.b9.lt; omega), own_frm h.own hf (fun k hk e => by have := hT _ e; have := (h.own.lt k hk).2; omega),
    own_frm h.src hf (fun k hk e => by have := hT _ e; have := (h.src.lt k hk).2; omega), h.ap, h.ne, h.h8, h.h9, h.be.trans (hf.below h.be.size (fun k e => by have := hT _ e; have := h.be.size; omega))⟩
theorem DS.below (h : DS w wr g8 g9 A cA effs es st Av cv) (hb : Below wr.heap.size wr w') : DS w w' g8 g9 A cA effs es st Av cv := h.frm (Frm.of_below hb) (fun _ h => h)
/-- What is returned: a plan is laid into the result's cell. -/
theorem DS.fin (h : DS w wr g8 g9 A cA effs es st Av cv) (a : Bool) (b : ByteArray) (c : Bool) (d : ByteArray) :
    Blk (((((wr.setCell ⟨g8, 0, none⟩ (.bool a)).setCell ⟨g8, 1, none⟩ (.slice Av es.length cv)).setCell ⟨g8, 2, none⟩ (.string b)).setCell ⟨g8, 3, none⟩ (.bool c)).setCell ⟨g8, 4, none⟩ (.string d)) g8 87 [.bool a, .slice Av es.length cv, .string b, .bool c, .string d] ∧
    (((((wr.setCell ⟨g8, 0, none⟩ (.bool a)).setCell ⟨g8, 1, none⟩ (.slice Av es.length cv)).setCell ⟨g8, 2, none⟩ (.string b)).setCell ⟨g8, 3, none⟩ (.bool c)).setCell ⟨g8, 4, none⟩ (.string d)).ownsRow w.heap.size 57 7 (.slice Av es.length cv) es.length (flatE es) ∧
    Below w.heap.size w (((((wr.setCell ⟨g8, 0, none⟩ (.bool a)).setCell ⟨g8, 1, none⟩ (.slice Av es.length cv)).setCell ⟨g8, 2, none⟩ (.string b)).setCell ⟨g8, 3, none⟩ (.bool c)).setCell ⟨g8, 4, none⟩ (.string d)) := by
  obtain ⟨s1, s2⟩ := set5 h.b8 (.bool a) (.slice Av es.length cv) (.string b) (.bool c) (.string d)
  refine ⟨s1, own_frm h.own s2 (fun k hk e => ?_), h.be.trans (s2.below h.be.size (fun k hk => by have := h.h8; omega))⟩
  obtain ⟨cs, hbk⟩ := own_at h.own hk
  exact hbk.ne h.b8 (by decide) e
/-- The state is turned. -/
theorem DS.become (h : DS w wr g8 g9 A cA effs es st Av cv) (st' : ByteArray) : DS w (wr.setCell ⟨g9, 2, none⟩ (.string st')) g8 g9 A cA effs es st' Av cv := by
  have F : Frm (fun k => k = g9) wr (wr.setCell ⟨g9, 2, none⟩ (.string st')) := Frm.one wr ⟨g9, 2, none⟩ _
  refine ⟨h.b8.frm F h.ne, h.b9.set_ 2 _, own_frm h.own F (fun k hk e => ?_), own_frm h.src F (fun k hk e => ?_), h.ap, h.ne, h.h8, h.h9, h.be.trans (F.below h.be.size (fun k hk => by have := h.h9; omega))⟩
  · obtain ⟨cs, hbk⟩ := own_at h.own hk
    exact hbk.ne h.b9 (by decide) e
  · obtain ⟨cs, hbk⟩ := own_at h.src hk
    exact hbk.ne h.b9 (by decide) e
theorem DS.keep {T : Nat → Prop} (h : DS w wr g8 g9 A cA effs es st Av cv) (hf : Frm T wr w') (h8 : ¬ T g8) (h9 : ¬ T g9) (ho : ∀ k, (Value.slice Av es.length cv).ownBlock = some k → ¬ T k) (hs : ∀ k, (Value.slice A effs.length cA).ownBlock = some k → ¬ T k) (hT : ∀ k, T k → w.heap.size ≤ k) :
    DS w w' g8 g9 A cA effs es st Av cv :=
  ⟨h.b8.frm hf h8, h.b9.frm hf h9, own_frm h.own hf ho, own_frm h.src hf hs, h.ap, h.ne, h.h8, h.h9, h.be.trans (hf.below h.be.size hT)⟩
theorem DS.after (h : DS w wr g8 g9 A cA effs es st Av cv) {v' : Value} {k : Nat} {xs : List Value} {w1 : World} (ha : Appended wr w1 w.heap.size 57 7 (.slice Av es.length cv) v' k xs) : Blk w1 g9 87 [.bool false, .slice Av es.length cv, .string st, .bool false, .string noS] :=
  h.b9.frm ha.frm (fun e => by
    obtain ⟨cs, hbk⟩ := own_at h.own e
    exact hbk.ne h.b9 (by decide) rfl)
/-- What is returned where a field of the plan was written. -/
theorem DS.fin2 (h : DS w wr g8 g9 A cA effs es st Av cv) {W : World} (hW : Frm (fun k => k = g9) wr W) (a : Bool) (b : ByteArray) (c : Bool) (d : ByteArray) :
    Blk (((((W.setCell ⟨g8, 0, none⟩ (.bool a)).setCell ⟨g8, 1, none⟩ (.slice Av es.length cv)).setCell ⟨g8, 2, none⟩ (.string b)).setCell ⟨g8, 3, none⟩ (.bool c)).setCell ⟨g8, 4, none⟩ (.string d)) g8 87 [.bool a, .slice Av es.length cv, .string b, .bool c, .string d] ∧
    (((((W.setCell ⟨g8, 0, none⟩ (.bool a)).setCell ⟨g8, 1, none⟩ (.slice Av es.length cv)).setCell ⟨g8, 2, none⟩ (.string b)).setCell ⟨g8, 3, none⟩ (.bool c)).setCell ⟨g8, 4, none⟩ (.string d)).ownsRow w.heap.size 57 7 (.slice Av es.length cv) es.length (flatE es) ∧
    Below w.heap.size w (((((W.setCell ⟨g8, 0, none⟩ (.bool a)).setCell ⟨g8, 1, none⟩ (.slice Av es.length cv)).setCell ⟨g8, 2, none⟩ (.string b)).setCell ⟨g8, 3, none⟩ (.bool c)).setCell ⟨g8, 4, none⟩ (.string d)) := by
  have b8 := h.b8.frm hW h.ne
  obtain ⟨s1, s2⟩ := set5 b8 (.bool a) (.slice Av es.length cv) (.string b) (.bool c) (.string d)
  have be := h.be.trans (hW.below h.be.size (fun k hk => by have := h.h9; omega))
  have ow := own_frm h.own hW (fun k hk e => by
    obtain ⟨cs, hbk⟩ := own_at h.own hk
    exact hbk.ne h.b9 (by decide) e)
  refine ⟨s1, own_frm ow s2 (fun k hk e => ?_), be.trans (s2.below be.size (fun k hk => by have := h.h8; omega))⟩
  obtain ⟨cs, hbk⟩ := own_at ow hk
  exact hbk.ne b8 (by decide) e
/-- An effect is appended, and the row laid into its cell. -/
theorem DS.grow (h : DS w wr g8 g9 A cA effs es st Av cv) (e : Eff) {Av' : Option Addr} {cv' : Nat} {w1 : World} (ha : Appended wr w1 w.heap.size 57 7 (.slice Av es.length cv) (.slice Av' (es.length + 1) cv') (es.length + 1) (flatE es ++ e.cells)) :
    DS w (w1.setCell ⟨g9, 1, none⟩ (.slice Av' (es.length + 1) cv')) g8 g9 A cA effs (es ++ [e]) st Av' cv' := by
  have el : (es ++ [e]).length = es.length + 1 := by simp
  have n8 : ∀ {k : Nat}, (Value.slice Av es.length cv).ownBlock = some k → k ≠ g8 := fun hk e => by
    obtain ⟨cs, hbk⟩ := own_at h.own hk
    exact hbk.ne h.b8 (by decide) e
  have n9 : ∀ {k : Nat}, (Value.slice Av es.length cv).ownBlock = some k → k ≠ g9 := fun hk e => by
    obtain ⟨cs, hbk⟩ := own_at h.own hk
    exact hbk.ne h.b9 (by decide) e
  have b81 := h.b8.frm ha.frm (fun e => n8 e rfl)
  have b91 := h.b9.frm ha.frm (fun e => n9 e rfl)
  have src1 := own_frm h.src ha.frm (fun k hk e => h.ap k e hk)
  have be1 := h.be.trans (ha.frm.below h.be.size (fun k hk => (h.own.lt k hk).1))
  have F : Frm (fun k => k = g9) w1 (w1.setCell ⟨g9, 1, none⟩ (.slice Av' (es.length + 1) cv')) := Frm.one w1 ⟨g9, 1, none⟩ _
  refine ⟨b81.frm F h.ne, ?_, ?_, own_frm src1 F (fun k hk e => ?_), fun b hb hb2 => ?_, h.ne, h.h8, h.h9, be1.trans (F.below be1.size (fun k hk => by have := h.h9; omega))⟩
  · rw [el]; exact b91.set_ 1 _
  · rw [el, flatE_app, flatE_one]
    exact own_frm ha.own F (fun k hk e => by
      obtain ⟨cs, hbk⟩ := own_at ha.own hk
      exact hbk.ne b91 (by decide) e)
  · obtain ⟨cs, hbk⟩ := own_at src1 hk
    exact hbk.ne b91 (by decide) e
  · rw [el] at hb
    rcases ha.at_ with h' | h'
    · rw [h'] at hb; exact h.ap b hb hb2
    · rw [h'] at hb; cases hb; have := (h.src.lt _ hb2).2; omega
end

set_option maxRecDepth 100000 in
set_option maxHeartbeats 2000000 in
theorem do_any (k : Kd) (state tag : ByteArray) (n : Int) (hn : -9223372036854775808 ≤ n ∧ n ≤ 9223372036854775807) (w : World) (hk : KindIn w w.heap.size k) :
    Calls Try.prog 40 #[k.val, .string state, .string tag, .int .i64 n] w (Done (planV k.sts state tag n) w) := by
  obtain ⟨wb, hwb⟩ : ∃ wb, wb = ((w.alloc (.cells #[.string k.name, .int .i64 k.limit, .int .i64 k.within, .slice k.Ac k.nc k.cc, .slice k.A k.sts.length k.cap] 67)).alloc (.cells #[.bool false, .slice none 0 0, .string ⟨#[]⟩, .bool false, .string ⟨#[]⟩] 87)).alloc (.cells #[.bool false, .slice none 0 0, .string state, .bool false, .string ⟨#[]⟩] 87) := ⟨_, rfl⟩
  have b0 : Below w.heap.size w wb := by rw [hwb]; exact ((((Below.refl _ w).alloc (Nat.le_refl _) _).alloc (by simp) _).alloc (by simp; omega) _)
  have k0 : Blk wb w.heap.size 67 [.string k.name, .int .i64 k.limit, .int .i64 k.within, .slice k.Ac k.nc k.cc, .slice k.A k.sts.length k.cap] := by rw [hwb]; exact ((Blk.new w 67 [.string k.name, .int .i64 k.limit, .int .i64 k.within, .slice k.Ac k.nc k.cc, .slice k.A k.sts.length k.cap]).alloc _).alloc _
  have k8 : Blk wb (w.heap.size + 1) 87 [.bool false, .slice none 0 0, .string noS, .bool false, .string noS] := by rw [hwb]; simpa [noS] using (Blk.new (w.alloc (.cells #[.string k.name, .int .i64 k.limit, .int .i64 k.within, .slice k.Ac k.nc k.cc, .slice k.A k.sts.length k.cap] 67)) 87 [.bool false, .slice none 0 0, .string ⟨#[]⟩, .bool false, .string ⟨#[]⟩]).alloc (.cells #[.bool false, .slice none 0 0, .string state, .bool false, .string ⟨#[]⟩] 87)
  have k9 : Blk wb (w.heap.size + 1 + 1) 87 [.bool false, .slice none 0 0, .string state, .bool false, .string noS] := by rw [hwb]; simpa [noS] using Blk.new ((w.alloc (.cells #[.string k.name, .int .i64 k.limit, .int .i64 k.within, .slice k.Ac k.nc k.cc, .slice k.A k.sts.length k.cap] 67)).alloc (.cells #[.bool false, .slice none 0 0, .string ⟨#[]⟩, .bool false, .string ⟨#[]⟩] 87)) 87 [.bool false, .slice none 0 0, .string state, .bool false, .string ⟨#[]⟩]
  have e0 := k0.cell
  have hs0 := b0.size
  have RW := Troupe.hid (row_any k state tag n wb ((hk.below b0).mono hs0))
  have WB := Troupe.hid hwb
  have HK := Troupe.hid hk
  have D0 : Hid (DS w wb (w.heap.size + 1) (w.heap.size + 1 + 1) none 0 [] [] state none 0) := ⟨k8, k9, World.ownsRow_nil _ _ _ _, World.ownsRow_nil _ _ _ _, (fun b hb => by simp [Value.ownBlock] at hb), by omega, by omega, by omega, b0⟩
  obtain ⟨PP, hPP⟩ : ∃ PP, planV k.sts state tag n = PP := ⟨_, rfl⟩
  rw [hPP]
  have HP := Troupe.hid hPP
  clear hPP hk b0 k0 k8 k9 hwb
  dsimp only [Kd.val] at RW ⊢
  go_enter Try.func40, Try.ntmps40
  go_wp2_with fail
  rw [← WB.out]
  clear WB
  generalize w.heap.size + 1 + 1 = g9 at *
  generalize w.heap.size + 1 = g8 at *
  refine RW.out.mono ?_
  rintro e w1 ⟨hb1, hrow⟩
  have D1 := Troupe.hid (D0.out.below hb1)
  have hz1 := hb1.size
  cases hr : rowV k.sts state tag n with
  | none =>
    rw [hr] at hrow
    subst hrow
    have hPP : PP = ⟨false, [], state, false, noS⟩ := by rw [← HP.out]; unfold planV; rw [hr]
    subst hPP
    have d9 := (D1.out.b9.alloc (.cells #[.string noS, .bool false, .int .i64 0, .slice none 0 0] 60)).cell
    have D2 : DS w (w1.alloc (.cells #[.string noS, .bool false, .int .i64 0, .slice none 0 0] 60)) g8 g9 none 0 [] [] state none 0 := D1.out.below ((Below.refl _ _).alloc (Nat.le_refl _) _)
    have d8 := D2.b8.cell
    have f8 := D2.b8.frozen
    have DH := Troupe.hid D2
    clear hb1 D2 e0 hr
    go_wp2_with fail
    (try simp only [Exit.inBlock, Exit.then])
    obtain ⟨s1, s2, s3⟩ := DH.out.fin false state false noS
    refine bodyPost_ret (results_cell_row rfl _ _ g8 87 _ (0, 0) _ rfl s1 Try.underlying87 rfl size87) rfl ⟨_, rfl, s2, s3⟩
  | some r =>
    rw [hr] at hrow
    obtain ⟨v, rfl, ho⟩ := hrow
    have hPP : doGo n state true r.effs ⟨false, [], state, false, noS⟩ = PP := by rw [← HP.out]; unfold planV; rw [hr]
    have hle : r.effs.length * 80 ≤ 140737488355328 := by
      unfold rowV at hr
      cases h1 : k.sts.find? (nameV state) with
      | none => rw [h1] at hr; cases hr
      | some s =>
        rw [h1] at hr
        have h2 : s.rows.find? (fitsV tag n) = some r := hr
        exact ((HK.out.2.1 s (List.mem_of_find?_eq_some h1)).2.1 r (List.mem_of_find?_eq_some h2)).2.2
    obtain ⟨A, cA, rfl, hcap, hcm, -, -, -⟩ := own_form ho
    obtain ⟨effs, heffs⟩ : ∃ effs, effs = r.effs := ⟨_, rfl⟩
    rw [← heffs] at hPP hle ho hcap ⊢
    have F2 : Below w1.heap.size w1 (w1.alloc (.cells #[.string r.tag, .bool r.only, .int .i64 r.n, .slice A effs.length cA] 60)) := (Below.refl _ _).alloc (Nat.le_refl _) _
    have D2 : DS w (w1.alloc (.cells #[.string r.tag, .bool r.only, .int .i64 r.n, .slice A effs.length cA] 60)) g8 g9 A cA effs [] state none 0 :=
      ⟨(D1.out.below F2).b8, (D1.out.below F2).b9, World.ownsRow_nil _ _ _ _, own_below (Go.Joins.ownsRow_le ho (Nat.zero_le _)) F2, (fun b hb => by simp [Value.ownBlock] at hb), D1.out.ne, D1.out.h8, D1.out.h9, (D1.out.below F2).be⟩
    have DH := Troupe.hid D2
    have PH := Troupe.hid hPP
    clear hb1 D1 D2 F2 e0 hr ho heffs hPP HP RW D0 hcap hcm
    go_wp2_with fail
    generalize w1.alloc (.cells #[.string r.tag, .bool r.only, .int .i64 r.n, .slice A effs.length cA] 60) = w2 at *
    go_loopw [30] (fun v30 wr => ∃ (i : Nat) (es : List Eff) (st : ByteArray) (Av : Option Addr) (cv : Nat), i ≤ effs.length ∧ v30 = .int .i64 i ∧ es.length ≤ i ∧ doGo n state (decide (i = 0)) (effs.drop i) ⟨false, es, st, false, noS⟩ = PP ∧ DS w wr g8 g9 A cA effs es st Av cv) (fun v30 _ => effs.length - (intOf v30).toNat)
    case atStart => exact ⟨0, [], state, none, 0, Nat.zero_le _, rfl, by simp, by simpa using PH.out, DH.out⟩
    case round =>
      obtain ⟨i, es, st, Av, cv, hi, rfl, hel, hpp, hds⟩ := hrel
      by_cases hlt : i < effs.length
      · obtain ⟨e, hx⟩ : ∃ e, effs[i]? = some e := ⟨_, List.getElem?_eq_getElem hlt⟩
        have hdrop : effs.drop i = e :: effs.drop (i + 1) := by rw [List.drop_eq_getElem_cons hlt, (List.getElem?_eq_some_iff.1 hx).2]
        rw [hdrop] at hpp
        have hi3 : i < 1759218604442 := by omega
        have hnext : decide (i + 1 = 0) = false := by simp
        obtain ⟨b, off, hA, _, hc⟩ := cells_at (sz := 7) (fun _ => rfl) (by decide) (own_cells hds.src) hx
        obtain ⟨d, ref, slot, name, v, m, delay⟩ := e
        have c0 : wr.cell? ⟨b, off + i * 7, none⟩ = some (.int .i64 d) := hc 0 (by decide) _ rfl
        have c1 : wr.cell? ⟨b, off + i * 7 + 1, none⟩ = some (.string ref) := hc 1 (by decide) _ rfl
        have c2 : wr.cell? ⟨b, off + i * 7 + 2, none⟩ = some (.string slot) := hc 2 (by decide) _ rfl
        have c3 : wr.cell? ⟨b, off + i * 7 + 3, none⟩ = some (.string name) := hc 3 (by decide) _ rfl
        have c4 : wr.cell? ⟨b, off + i * 7 + 4, none⟩ = some (.int .i64 v) := hc 4 (by decide) _ rfl
        have c5 : wr.cell? ⟨b, off + i * 7 + 5, none⟩ = some (.int .i64 m) := hc 5 (by decide) _ rfl
        have c6 : wr.cell? ⟨b, off + i * 7 + 6, none⟩ = some (.int .i64 delay) := hc 6 (by decide) _ rfl
        subst hA
        have Da : DS w (wr.alloc (.cells #[.int .i64 d, .string ref, .string slot, .string name, .int .i64 v, .int .i64 m, .int .i64 delay] 57)) g8 g9 (some ⟨b, off, none⟩) cA effs es st Av cv := hds.below ((Below.refl _ _).alloc (Nat.le_refl _) _)
        have Ba : Blk (wr.alloc (.cells #[.int .i64 d, .string ref, .string slot, .string name, .int .i64 v, .int .i64 m, .int .i64 delay] 57)) wr.heap.size 57 [.int .i64 d, .string ref, .string slot, .string name, .int .i64 v, .int .i64 m, .int .i64 delay] := Blk.new _ _ _
        have l8 := hds.b8.lt
        have l9 := hds.b9.lt
        have lo : Hid (∀ k, (Value.slice Av es.length cv).ownBlock = some k → k < wr.heap.size) := fun k hk => (hds.own.lt k hk).2
        have ls : Hid (∀ k, (Value.slice (some ⟨b, off, none⟩) effs.length cA).ownBlock = some k → k < wr.heap.size) := fun k hk => (hds.src.lt k hk).2
        have lw := hds.be.size
        have e9 := Da.b9.cell
        have f9 := Da.b9.frozen
        have e8 := Da.b8.cell
        have f8 := Da.b8.frozen
        have n89 := hds.ne
        have n98 : ¬ g9 = g8 := fun h => n89 h.symm
        have DaH := Troupe.hid Da
        have BaH := Troupe.hid Ba
        have PPH := Troupe.hid hpp
        have lz : (wr.alloc (.cells #[.int .i64 d, .string ref, .string slot, .string name, .int .i64 v, .int .i64 m, .int .i64 delay] 57)).heap.size = wr.heap.size + 1 := by simp
        have eb := Ba.cell
        have fb := Ba.frozen
        clear hc hx hdrop hds Da Ba hpp
        go_upto_block 2 with (fail)
        clear c0 c1 c2 c3 c4 c5 c6
        generalize wr.alloc (.cells #[.int .i64 d, .string ref, .string slot, .string name, .int .i64 v, .int .i64 m, .int .i64 delay] 57) = wa at *
        generalize wr.heap.size = g13 at *
        have LZ := Troupe.hid lz
        clear lz
        have m8 : ¬ g8 = g13 := by omega
        have m9 : ¬ g9 = g13 := by omega
        have m8' : ¬ g13 = g8 := by omega
        have m9' : ¬ g13 = g9 := by omega
        by_cases k4 : d = 4
        · subst k4
          by_cases hi0 : i = 0
          · subst hi0
            have hPP : PP = ⟨true, [], state, false, noS⟩ := by rw [← PPH.out]; simp [doGo]
            subst hPP
            clear PPH hi
            go_wp2_with fail
            (try simp only [Exit.inBlock, Exit.then])
            obtain ⟨s1, s2⟩ := set5 DaH.out.b8 (.bool true) (.slice none 0 0) (.string state) (.bool false) (.string ⟨#[]⟩)
            refine bodyPost_ret (results_cell_row rfl _ _ g8 87 _ (0, 0) _ rfl s1 Try.underlying87 rfl size87) rfl ⟨_, rfl, World.ownsRow_nil _ _ _ _, DaH.out.be.trans (s2.below DaH.out.be.size (fun k hk => by have := DaH.out.h8; omega))⟩
          · have hd0 : decide (i = 0) = false := decide_eq_false hi0
            have hib : ((i : Int) == 0) = false := by rw [beq_eq_false_iff_ne]; omega
            have hP2 := PPH.out
            rw [hd0] at hP2
            simp only [doGo, if_pos, Bool.false_eq_true, if_false] at hP2
            have P2 := Troupe.hid hP2
            clear hP2 PPH hi0 hd0
            go_wp2_with fail
            go_roundw
            case rel => exact ⟨i + 1, es, st, Av, cv, by omega, by go_num, by omega, by rw [hnext]; exact P2.out, DaH.out⟩
            case measure => simp [intOf]; omega
        have b4 : (d == 4) = false := by rw [beq_eq_false_iff_ne]; exact k4
        by_cases k3 : d = 3
        · subst k3
          have P2 := Troupe.hid (show doGo n state false (effs.drop (i + 1)) ⟨false, es, name, false, noS⟩ = PP by have h := PPH.out; simpa [doGo] using h)
          clear PPH k4
          go_wp2_with fail
          go_roundw
          case rel => exact ⟨i + 1, es, name, Av, cv, by omega, by go_num, by omega, by rw [hnext]; exact P2.out, DaH.out.become name⟩
          case measure => simp [intOf]; omega
        have b3 : (d == 3) = false := by rw [beq_eq_false_iff_ne]; exact k3
        by_cases k11 : d = 11
        · subst k11
          have hPP : PP = ⟨false, es, st, true, noS⟩ := by rw [← PPH.out]; simp [doGo]
          subst hPP
          clear PPH k4 k3
          go_wp2_with fail
          (try simp only [Exit.inBlock, Exit.then])
          obtain ⟨s1, s2, s3⟩ := DaH.out.fin2 (Frm.one _ ⟨g9, 3, none⟩ (.bool true)) false st true noS
          refine bodyPost_ret (results_cell_row rfl _ _ g8 87 _ (0, 0) _ rfl s1 Try.underlying87 rfl size87) rfl ⟨_, rfl, s2, s3⟩
        have b11 : (d == 11) = false := by rw [beq_eq_false_iff_ne]; exact k11
        by_cases k12 : d = 12
        · subst k12
          have hPP : PP = ⟨false, es, st, false, name⟩ := by rw [← PPH.out]; simp [doGo]
          subst hPP
          clear PPH k4 k3 k11
          go_wp2_with fail
          (try simp only [Exit.inBlock, Exit.then])
          obtain ⟨s1, s2, s3⟩ := DaH.out.fin2 (Frm.one _ ⟨g9, 4, none⟩ (.string name)) false st false name
          refine bodyPost_ret (results_cell_row rfl _ _ g8 87 _ (0, 0) _ rfl s1 Try.underlying87 rfl size87) rfl ⟨_, rfl, s2, s3⟩
        have b12 : (d == 12) = false := by rw [beq_eq_false_iff_ne]; exact k12
        have hroom : (es.length + 1) * 80 ≤ 140737488355328 := by omega
        by_cases k18 : d = 1 ∨ d = 8
        · have hsend : ((d == 1) = true ∧ ¬ d = 8) ∨ ((d == 1) = false ∧ (d == 8) = true) := by
            rcases k18 with h | h
            · exact .inl ⟨by rw [h]; rfl, by omega⟩
            · exact .inr ⟨by rw [h]; rfl, by rw [h]; rfl⟩
          obtain ⟨q, hq⟩ : ∃ q, numV ⟨d, ref, slot, name, v, m, delay⟩ n = q := ⟨_, rfl⟩
          have P2 := Troupe.hid (show doGo n state false (effs.drop (i + 1)) ⟨false, es ++ [⟨d, ref, slot, name, 2, q, delay⟩], st, false, noS⟩ = PP by have h := PPH.out; rw [← hq]; simpa [doGo, k4, k3, k11, k12, k18] using h)
          have NM := Troupe.hid (number_any ⟨d, ref, slot, name, v, m, delay⟩ n hn wa)
          rw [hq] at NM
          dsimp only [Eff.cells] at NM
          have hrest : ∀ w5, Below wa.heap.size wa w5 → DS w ((w5.setCell ⟨g13, 5, none⟩ (.int .i64 q)).setCell ⟨g13, 4, none⟩ (.int .i64 2)) g8 g9 (some ⟨b, off, none⟩) cA effs es st Av cv ∧ Blk w5 g13 57 [.int .i64 d, .string ref, .string slot, .string name, .int .i64 v, .int .i64 m, .int .i64 delay] := by
            intro w5 hb5
            have D5 := DaH.out.below hb5
            have F : Frm (fun k => k = g13) w5 ((w5.setCell ⟨g13, 5, none⟩ (.int .i64 q)).setCell ⟨g13, 4, none⟩ (.int .i64 2)) := (Frm.one w5 ⟨g13, 5, none⟩ _).trans (Frm.one _ ⟨g13, 4, none⟩ _) (fun _ _ h => h)
            exact ⟨D5.keep F m8 m9 (fun k hk e => by have := lo.out k hk; omega) (fun k hk e => by have := ls.out k hk; omega) (fun k e => by omega), BaH.out.below hb5 BaH.out.lt⟩
          have HR := Troupe.hid hrest
          clear PPH k4 k3 k11 k12 k18 hq hrest
          rcases hsend with ⟨b1, k8⟩ | ⟨b1, b8⟩
          · go_wp2_with fail
            refine NM.out.mono ?_
            rintro en w5 ⟨rfl, hb5⟩
            obtain ⟨D6, B5⟩ := HR.out w5 hb5
            have e5 := B5.cell
            have f5 := B5.frozen
            have e95 := (DaH.out.below hb5).b9.cell
            have z6 := D6.be.size
            have F7 : Below ((w5.setCell ⟨g13, 5, none⟩ (.int .i64 q)).setCell ⟨g13, 4, none⟩ (.int .i64 2)).heap.size ((w5.setCell ⟨g13, 5, none⟩ (.int .i64 q)).setCell ⟨g13, 4, none⟩ (.int .i64 2)) (((w5.setCell ⟨g13, 5, none⟩ (.int .i64 q)).setCell ⟨g13, 4, none⟩ (.int .i64 2)).alloc (.cells #[.int .i64 d, .string ref, .string slot, .string name, .int .i64 2, .int .i64 q, .int .i64 delay] 57)) := (Below.refl _ _).alloc (Nat.le_refl _) _
            have D7 := Troupe.hid (D6.below F7)
            have hs6 : ((w5.setCell ⟨g13, 5, none⟩ (.int .i64 q)).setCell ⟨g13, 4, none⟩ (.int .i64 2)).heap.size = w5.heap.size := by simp [World.setCell]
            have c7 := (Blk.new ((w5.setCell ⟨g13, 5, none⟩ (.int .i64 q)).setCell ⟨g13, 4, none⟩ (.int .i64 2)) 57 [.int .i64 d, .string ref, .string slot, .string name, .int .i64 2, .int .i64 q, .int .i64 delay]).blk_cells
            rw [hs6] at c7
            have O7 := Troupe.hid D7.out.own
            have C7 := Troupe.hid c7
            have z7 := D7.out.be.size
            clear hb5 D6 B5 F7 z6 hs6 c7
            go_wp2_with (at_builtin; refine wpList_app rfl (.tmp 67) (.tmp 69) 58 rfl w.heap.size 57 info57 Try.underlying58 rfl (by decide) (.slice Av es.length cv) es.length (flatE es) rfl O7.out _ (some ⟨w5.heap.size, 0, none⟩) 1 1 [.int .i64 d, .string ref, .string slot, .string name, .int .i64 2, .int .i64 q, .int .i64 delay] rfl rfl C7.out (fun h => by cases h) (by simp [Value.oneCell']) (by omega) (by unfold maxLen; omega) z7 ?_; intro v0 w8 h'; obtain ⟨Av', cv', rfl, -⟩ := own_form h'.own; have e98 := (D7.out.after h').cell; have f98 := (D7.out.after h').frozen; have DG := Troupe.hid (D7.out.grow ⟨d, ref, slot, name, 2, q, delay⟩ h'); clear h')
            go_roundw
            case rel => exact ⟨i + 1, es ++ [⟨d, ref, slot, name, 2, q, delay⟩], st, Av', cv', by omega, by go_num, by simp; omega, by rw [hnext]; exact P2.out, DG.out⟩
            case measure => simp [intOf]; omega
          · go_wp2_with fail
            refine NM.out.mono ?_
            rintro en w5 ⟨rfl, hb5⟩
            obtain ⟨D6, B5⟩ := HR.out w5 hb5
            have e5 := B5.cell
            have f5 := B5.frozen
            have e95 := (DaH.out.below hb5).b9.cell
            have z6 := D6.be.size
            have F7 : Below ((w5.setCell ⟨g13, 5, none⟩ (.int .i64 q)).setCell ⟨g13, 4, none⟩ (.int .i64 2)).heap.size ((w5.setCell ⟨g13, 5, none⟩ (.int .i64 q)).setCell ⟨g13, 4, none⟩ (.int .i64 2)) (((w5.setCell ⟨g13, 5, none⟩ (.int .i64 q)).setCell ⟨g13, 4, none⟩ (.int .i64 2)).alloc (.cells #[.int .i64 d, .string ref, .string slot, .string name, .int .i64 2, .int .i64 q, .int .i64 delay] 57)) := (Below.refl _ _).alloc (Nat.le_refl _) _
            have D7 := Troupe.hid (D6.below F7)
            have hs6 : ((w5.setCell ⟨g13, 5, none⟩ (.int .i64 q)).setCell ⟨g13, 4, none⟩ (.int .i64 2)).heap.size = w5.heap.size := by simp [World.setCell]
            have c7 := (Blk.new ((w5.setCell ⟨g13, 5, none⟩ (.int .i64 q)).setCell ⟨g13, 4, none⟩ (.int .i64 2)) 57 [.int .i64 d, .string ref, .string slot, .string name, .int .i64 2, .int .i64 q, .int .i64 delay]).blk_cells
            rw [hs6] at c7
            have O7 := Troupe.hid D7.out.own
            have C7 := Troupe.hid c7
            have z7 := D7.out.be.size
            clear hb5 D6 B5 F7 z6 hs6 c7
            go_wp2_with (at_builtin; refine wpList_app rfl (.tmp 67) (.tmp 69) 58 rfl w.heap.size 57 info57 Try.underlying58 rfl (by decide) (.slice Av es.length cv) es.length (flatE es) rfl O7.out _ (some ⟨w5.heap.size, 0, none⟩) 1 1 [.int .i64 d, .string ref, .string slot, .string name, .int .i64 2, .int .i64 q, .int .i64 delay] rfl rfl C7.out (fun h => by cases h) (by simp [Value.oneCell']) (by omega) (by unfold maxLen; omega) z7 ?_; intro v0 w8 h'; obtain ⟨Av', cv', rfl, -⟩ := own_form h'.own; have e98 := (D7.out.after h').cell; have f98 := (D7.out.after h').frozen; have DG := Troupe.hid (D7.out.grow ⟨d, ref, slot, name, 2, q, delay⟩ h'); clear h')
            go_roundw
            case rel => exact ⟨i + 1, es ++ [⟨d, ref, slot, name, 2, q, delay⟩], st, Av', cv', by omega, by go_num, by simp; omega, by rw [hnext]; exact P2.out, DG.out⟩
            case measure => simp [intOf]; omega
        · have k1 : ¬ d = 1 := fun h => k18 (.inl h)
          have k8 : ¬ d = 8 := fun h => k18 (.inr h)
          have b1 : (d == 1) = false := by rw [beq_eq_false_iff_ne]; exact k1
          have b8 : (d == 8) = false := by rw [beq_eq_false_iff_ne]; exact k8
          have P2 := Troupe.hid (show doGo n state false (effs.drop (i + 1)) ⟨false, es ++ [⟨d, ref, slot, name, v, m, delay⟩], st, false, noS⟩ = PP by have h := PPH.out; simpa [doGo, k4, k3, k11, k12, k1, k8] using h)
          have D6 := DaH
          have F7 : Below (wa).heap.size (wa) ((wa).alloc (.cells #[.int .i64 d, .string ref, .string slot, .string name, .int .i64 v, .int .i64 m, .int .i64 delay] 57)) := (Below.refl _ _).alloc (Nat.le_refl _) _
          have D7 := Troupe.hid (D6.out.below F7)
          have O7 := Troupe.hid D7.out.own
          have C7 := Troupe.hid ((Blk.new (wa) 57 [.int .i64 d, .string ref, .string slot, .string name, .int .i64 v, .int .i64 m, .int .i64 delay]).blk_cells)
          have z7 : w.heap.size ≤ ((wa).alloc (.cells #[.int .i64 d, .string ref, .string slot, .string name, .int .i64 v, .int .i64 m, .int .i64 delay] 57)).heap.size := D7.out.be.size
          have hs7 : ((wa).alloc (.cells #[.int .i64 d, .string ref, .string slot, .string name, .int .i64 v, .int .i64 m, .int .i64 delay] 57)).heap.size = (wa).heap.size + 1 := by simp
          clear F7
          clear PPH k4 k3 k11 k12 k18 k1 k8
          go_wp2_with (at_builtin; refine wpList_app rfl (.tmp 67) (.tmp 69) 58 rfl w.heap.size 57 info57 Try.underlying58 rfl (by decide) (.slice Av es.length cv) es.length (flatE es) rfl O7.out _ (some ⟨wa.heap.size, 0, none⟩) 1 1 [.int .i64 d, .string ref, .string slot, .string name, .int .i64 v, .int .i64 m, .int .i64 delay] rfl rfl C7.out (fun h => by cases h) (by simp [Value.oneCell']) (by omega) (by unfold maxLen; omega) z7 ?_; intro v0 w8 h'; obtain ⟨Av', cv', rfl, -⟩ := own_form h'.own; have e98 := (D7.out.after h').cell; have f98 := (D7.out.after h').frozen; have DG := Troupe.hid (D7.out.grow ⟨d, ref, slot, name, v, m, delay⟩ h'); clear h')
          go_roundw
          case rel => exact ⟨i + 1, es ++ [⟨d, ref, slot, name, v, m, delay⟩], st, Av', cv', by omega, by go_num, by simp; omega, by rw [hnext]; exact P2.out, DG.out⟩
          case measure => simp [intOf]; omega
      · obtain rfl : i = effs.length := by omega
        have hPP : PP = ⟨false, es, st, false, noS⟩ := by rw [← hpp, List.drop_length]; simp [doGo]
        subst hPP
        have e9 := hds.b9.cell
        have e8 := hds.b8.cell
        have f8 := hds.b8.frozen
        have DE := Troupe.hid hds
        clear hpp hds
        go_wp2_with fail
        (try simp only [Exit.inBlock, Exit.then])
        obtain ⟨s1, s2, s3⟩ := DE.out.fin false st false noS
        refine bodyPost_ret (results_cell_row rfl _ _ g8 87 _ (0, 0) _ rfl s1 Try.underlying87 rfl size87) rfl ⟨_, rfl, s2, s3⟩
end Go.Proofs.Ytkjjhndccelbcaa
