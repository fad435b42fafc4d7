/- ActNamed: the walk. -/
import Derived.Test.YtfeeajodgcdflaaRename
import Derived.Test.YtfeeajodgcdflaaTurned
import Derived.Laws.Concat
namespace Go.Proofs.Ytfeeajodgcdflaa
open Go.RowKit Go.Maps Go.Troupe
attribute [local go_sem] reads readAt readUpon Cls

/-- A row grows by one element, and is laid into its field. -/
theorem grown {w w8 : World} {base n cv cv' g o size : Nat} {e t : TypeId} {Av Av' : Option Addr} {cs xs elem : List Value} (ho : w.ownsRow base e size (.slice Av n cv) n xs) (hb : Blk w g t cs) (ht : e ≠ t)
    (ha : Appended (w.alloc (.cells elem.toArray e)) w8 base e size (.slice Av n cv) (.slice Av' (n + 1) cv') (n + 1) (xs ++ elem)) :
    (w8.setCell ⟨g, o, none⟩ (.slice Av' (n + 1) cv')).ownsRow base e size (.slice Av' (n + 1) cv') (n + 1) (xs ++ elem) ∧ Blk (w8.setCell ⟨g, o, none⟩ (.slice Av' (n + 1) cv')) g t (cs.set o (.slice Av' (n + 1) cv')) ∧
      Frm (fun k => k = g ∨ (Value.slice Av n cv).ownBlock = some k) w (w8.setCell ⟨g, o, none⟩ (.slice Av' (n + 1) cv')) ∧ Blk w8 g t cs := by
  have hne : ¬ (Value.slice Av n cv).ownBlock = some g := fun hk => by
    obtain ⟨cs', hbk⟩ := own_at ho hk
    exact hbk.ne hb ht rfl
  have b8 : Blk w8 g t cs := (hb.alloc _).frm ha.frm hne
  have F : Frm (fun k => k = g) w8 (w8.setCell ⟨g, o, none⟩ (.slice Av' (n + 1) cv')) := Frm.one w8 ⟨g, o, none⟩ _
  have F0 : Frm (fun k => (Value.slice Av n cv).ownBlock = some k) w w8 := (((Frm.refl (fun k => (Value.slice Av n cv).ownBlock = some k) w).alloc _).trans ha.frm (fun _ _ h => h))
  refine ⟨own_frm ha.own F (fun k hk e' => ?_), b8.set_ o _, (F0.mono (fun _ _ h => .inr h)).trans F (fun _ _ h => .inl h), b8⟩
  · obtain ⟨cs', hbk⟩ := own_at ha.own hk
    exact hbk.ne b8 ht e'
/-- What neither is the field's block nor holds elements of that type stays. -/
theorem keep_blk {w W : World} {base n cv g g' size : Nat} {e t : TypeId} {Av : Option Addr} {cs xs : List Value} (hf : Frm (fun k => k = g ∨ (Value.slice Av n cv).ownBlock = some k) w W) (ho : w.ownsRow base e size (.slice Av n cv) n xs) (hb : Blk w g' t cs) (ht : e ≠ t) (hg : g' ≠ g) : Blk W g' t cs :=
  hb.frm hf (fun h => by
    rcases h with h | h
    · exact hg h
    · obtain ⟨cs', hbk⟩ := own_at ho h
      exact hbk.ne hb ht rfl)
theorem keep_own {w W : World} {base n cv g size base' n' size' : Nat} {e e' t : TypeId} {Av : Option Addr} {cs xs xs' : List Value} {v : Value} (hf : Frm (fun k => k = g ∨ (Value.slice Av n cv).ownBlock = some k) w W) (ho : w.ownsRow base e size (.slice Av n cv) n xs) (hb : Blk w g t cs) (h : w.ownsRow base' e' size' v n' xs') (h1 : e' ≠ e) (h2 : e' ≠ t) : W.ownsRow base' e' size' v n' xs' :=
  own_frm h hf (fun k hk h' => by
    obtain ⟨cs', hbk⟩ := own_at h hk
    rcases h' with h' | h'
    · exact hbk.ne hb h2 h'
    · obtain ⟨cs2, hbk2⟩ := own_at ho h'
      exact hbk.ne hbk2 h1 rfl)
theorem take_one {α : Type} (l : List α) (m : Nat) (x : α) (h : l[m]? = some x) : l.take (m + 1) = l.take m ++ [x] := by
  obtain ⟨hm, rfl⟩ := List.getElem?_eq_some_iff.1 h
  rw [List.take_succ_eq_append_getElem hm]

theorem run_q {s : ByteArray} (h : s.size ≤ 140737488355328) : ∀ W, (Op.stringOp .add ⟨#[113]⟩ s).run Try.prog W = .ok (.string (qn s)) W := fun W => run_string_add_sum W _ _ (by
  have : (⟨#[113]⟩ : ByteArray).size = 1 := rfl
  omega)
structure J3 (w1 wr : World) (gr gw : Nat) (r : Rw) (m : Nat) (Av : Option Addr) (cv : Nat) : Prop where
  br : Blk wr gr 47 r.cells
  bw : Blk wr gw 47 [.string r.tag, .bool r.only, .int .i64 r.n, .slice Av m cv]
  own : wr.ownsRow w1.heap.size 36 7 (.slice Av m cv) m (flatE ((r.effs.take m).map nmE))
  fr : Frm (fun k => k = gw) w1 wr
  ne : gr ≠ gw
  lt : gw < w1.heap.size
theorem J3.below {w1 wr w' : World} {gr gw m cv : Nat} {r : Rw} {Av : Option Addr} (h : J3 w1 wr gr gw r m Av cv) (hb : Below wr.heap.size wr w') : J3 w1 w' gr gw r m Av cv :=
  ⟨h.br.below hb h.br.lt, h.bw.below hb h.bw.lt, own_below h.own hb, h.fr.trans (Frm.of_below hb) (fun k hk h' => by have := h.fr.size; omega), h.ne, h.lt⟩
theorem J3.grow {w1 wr w8 : World} {gr gw m cv cv' : Nat} {r : Rw} {Av Av' : Option Addr} {e : Eff} (h : J3 w1 wr gr gw r m Av cv) (he : r.effs[m]? = some e)
    (ha : Appended (wr.alloc (.cells (nmE e).cells.toArray 36)) w8 w1.heap.size 36 7 (.slice Av m cv) (.slice Av' (m + 1) cv') (m + 1) (flatE ((r.effs.take m).map nmE) ++ (nmE e).cells)) :
    J3 w1 (w8.setCell ⟨gw, 3, none⟩ (.slice Av' (m + 1) cv')) gr gw r (m + 1) Av' cv' ∧ Blk w8 gw 47 [.string r.tag, .bool r.only, .int .i64 r.n, .slice Av m cv] := by
  obtain ⟨h1, h2, h3, h4⟩ := grown (o := 3) h.own h.bw (by decide) ha
  refine ⟨⟨keep_blk h3 h.own h.br (by decide) h.ne, h2, ?_, h.fr.trans h3 (fun k hk h' => ?_), h.ne, h.lt⟩, h4⟩
  · rw [take_one _ _ _ he, List.map_append, flatE_app]
    simpa [flatE] using h1
  · rcases h' with h' | h'
    · exact h'
    · have := (h.own.lt k h').1; omega

structure J2 (w2 wr : World) (gs : Nat) (s : St) (j : Nat) (As : Option Addr) (cs : Nat) (rows' : List Rw) : Prop where
  bs : Blk wr gs 45 [.string (qn s.name), .slice As j cs]
  own : wr.ownsRow w2.heap.size 47 4 (.slice As j cs) j (flatR rows')
  rel : All2 RelR (s.rows.take j) rows'
  rin : ∀ r ∈ rows', wr.ownsRow w2.heap.size 36 7 (.slice r.A r.effs.length r.cap) r.effs.length (flatE r.effs)
  fr : Frm (fun k => k = gs) w2 wr
  lt : gs < w2.heap.size
theorem J2.below {w2 wr w' : World} {gs j cs : Nat} {s : St} {As : Option Addr} {rows' : List Rw} (h : J2 w2 wr gs s j As cs rows') (hb : Below wr.heap.size wr w') : J2 w2 w' gs s j As cs rows' :=
  ⟨h.bs.below hb h.bs.lt, own_below h.own hb, h.rel, fun r hr => own_below (h.rin r hr) hb, h.fr.trans (Frm.of_below hb) (fun k hk h' => by have := h.fr.size; omega), h.lt⟩
theorem J2.grow {w2 wr w8 : World} {gs j cs cs' : Nat} {s : St} {As As' : Option Addr} {rows' : List Rw} {r r' : Rw} (h : J2 w2 wr gs s j As cs rows') (he : s.rows[j]? = some r) (hr : RelR r r')
    (hown : wr.ownsRow w2.heap.size 36 7 (.slice r'.A r'.effs.length r'.cap) r'.effs.length (flatE r'.effs))
    (ha : Appended (wr.alloc (.cells r'.cells.toArray 47)) w8 w2.heap.size 47 4 (.slice As j cs) (.slice As' (j + 1) cs') (j + 1) (flatR rows' ++ r'.cells)) :
    J2 w2 (w8.setCell ⟨gs, 1, none⟩ (.slice As' (j + 1) cs')) gs s (j + 1) As' cs' (rows' ++ [r']) ∧ Blk w8 gs 45 [.string (qn s.name), .slice As j cs] := by
  obtain ⟨h1, h2, h3, h4⟩ := grown (o := 1) h.own h.bs (by decide) ha
  refine ⟨⟨h2, by simpa [flatR] using h1, ?_, fun x hx => ?_, h.fr.trans h3 (fun k hk h' => ?_), h.lt⟩, h4⟩
  · rw [take_one _ _ _ he]; exact h.rel.snoc hr
  · rcases List.mem_append.1 hx with hx | hx
    · exact keep_own h3 h.own h.bs (h.rin x hx) (by decide) (by decide)
    · rw [List.mem_singleton] at hx; subst hx
      exact keep_own h3 h.own h.bs hown (by decide) (by decide)
  · rcases h' with h' | h'
    · exact h'
    · have := (h.own.lt k h').1; omega

def StOwn (wr : World) (base : Nat) (s : St) : Prop := wr.ownsRow base 47 4 (.slice s.A s.rows.length s.cap) s.rows.length (flatR s.rows) ∧ ∀ r ∈ s.rows, wr.ownsRow base 36 7 (.slice r.A r.effs.length r.cap) r.effs.length (flatE r.effs)
theorem StOwn.below {wr w' : World} {base : Nat} {s : St} (h : StOwn wr base s) (hb : Below wr.heap.size wr w') : StOwn w' base s := ⟨own_below h.1 hb, fun r hr => own_below (h.2 r hr) hb⟩
structure J1 (w3 wr : World) (gt : Nat) (kn : ByteArray) (sts : List St) (i : Nat) (At : Option Addr) (ct : Nat) (sts' : List St) : Prop where
  bt : Blk wr gt 25 [.string kn, .int .i64 0, .int .i64 0, .slice none 0 0, .slice At i ct]
  own : wr.ownsRow w3.heap.size 45 2 (.slice At i ct) i (flatS sts')
  rel : All2 RelS (sts.take i) sts'
  rin : ∀ s ∈ sts', StOwn wr w3.heap.size s
  fr : Frm (fun k => k = gt) w3 wr
  lt : gt < w3.heap.size
theorem J1.below {w3 wr w' : World} {gt i ct : Nat} {kn : ByteArray} {sts sts' : List St} {At : Option Addr} (h : J1 w3 wr gt kn sts i At ct sts') (hb : Below wr.heap.size wr w') : J1 w3 w' gt kn sts i At ct sts' :=
  ⟨h.bt.below hb h.bt.lt, own_below h.own hb, h.rel, fun r hr => (h.rin r hr).below hb, h.fr.trans (Frm.of_below hb) (fun k hk h' => by have := h.fr.size; omega), h.lt⟩
theorem J1.grow {w3 wr w8 : World} {gt i ct ct' : Nat} {kn : ByteArray} {sts sts' : List St} {At At' : Option Addr} {s s' : St} (h : J1 w3 wr gt kn sts i At ct sts') (he : sts[i]? = some s) (hr : RelS s s') (hown : StOwn wr w3.heap.size s')
    (ha : Appended (wr.alloc (.cells s'.cells.toArray 45)) w8 w3.heap.size 45 2 (.slice At i ct) (.slice At' (i + 1) ct') (i + 1) (flatS sts' ++ s'.cells)) :
    J1 w3 (w8.setCell ⟨gt, 4, none⟩ (.slice At' (i + 1) ct')) gt kn sts (i + 1) At' ct' (sts' ++ [s']) ∧ Blk w8 gt 25 [.string kn, .int .i64 0, .int .i64 0, .slice none 0 0, .slice At i ct] := by
  obtain ⟨h1, h2, h3, h4⟩ := grown (o := 4) h.own h.bt (by decide) ha
  have hk : ∀ x, StOwn wr w3.heap.size x → StOwn (w8.setCell ⟨gt, 4, none⟩ (.slice At' (i + 1) ct')) w3.heap.size x := fun x hx =>
    ⟨keep_own h3 h.own h.bt hx.1 (by decide) (by decide), fun r hr => keep_own h3 h.own h.bt (hx.2 r hr) (by decide) (by decide)⟩
  refine ⟨⟨h2, by simpa [flatS] using h1, ?_, fun x hx => ?_, h.fr.trans h3 (fun k hk h' => ?_), h.lt⟩, h4⟩
  · rw [take_one _ _ _ he]; exact h.rel.snoc hr
  · rcases List.mem_append.1 hx with hx | hx
    · exact hk x (h.rin x hx)
    · rw [List.mem_singleton] at hx; subst hx
      exact hk x hown
  · rcases h' with h' | h'
    · exact h'
    · have := (h.own.lt k h').1; omega

set_option maxRecDepth 100000 in
set_option maxHeartbeats 8000000 in
theorem named_walk (k : Kd) (state tag : ByteArray) (n : Int) (hn : -9223372036854775808 ≤ n ∧ n ≤ 9223372036854775807) (hss : state.size ≤ 140737488355328) (w : World) (hk : KindIn w w.heap.size k) (hks : k.sts.length * 40 ≤ 140737488355328) (hnm : NamesS k.sts) :
    Calls Try.prog 5 #[k.val, .string state, .string tag, .int .i64 n] w fun e w' => e = .returned (.bool true) ∧ Below w.heap.size w w' := by
  have HK := Troupe.hid hk
  have HKS := Troupe.hid hks
  have HNM := Troupe.hid hnm
  clear hk hks hnm
  obtain ⟨kn, kl, kw, Ac, nc, cc, A, cap, sts⟩ := k
  dsimp only [Kd.val] at HK HKS HNM ⊢
  have F0 : Below w.heap.size w (w.alloc (.cells #[.string kn, .int .i64 kl, .int .i64 kw, .slice Ac nc cc, .slice A sts.length cap] 25)) := (Below.refl _ _).alloc (Nat.le_refl _) _
  have K0 : Blk (w.alloc (.cells #[.string kn, .int .i64 kl, .int .i64 kw, .slice Ac nc cc, .slice A sts.length cap] 25)) w.heap.size 25 [.string kn, .int .i64 kl, .int .i64 kw, .slice Ac nc cc, .slice A sts.length cap] := Blk.new _ _ _
  have HF := Troupe.hid F0
  have HK0 := Troupe.hid K0
  clear F0 K0
  go_enter Try.func5, Try.ntmps5
  go_wp2_with fail
  generalize w.alloc (.cells #[.string kn, .int .i64 kl, .int .i64 kw, .slice Ac nc cc, .slice A sts.length cap] 25) = w0 at *
  refine (alive_any w0).mono ?_
  rintro e w1 ⟨rfl, hb⟩
  have B1 := Troupe.hid (HF.out.trans (hb.mono HF.out.size))
  have K1 := Troupe.hid (HK0.out.below hb HK0.out.lt)
  have e1 := K1.out.cell
  have hsz := HK.out.2.2
  dsimp only at hsz
  clear hb HF HK0
  go_wp2_with fail
  have J0 : J1 (w1.alloc (.cells #[.string kn, .int .i64 0, .int .i64 0, .slice none 0 0, .slice none 0 0] 25)) (w1.alloc (.cells #[.string kn, .int .i64 0, .int .i64 0, .slice none 0 0, .slice none 0 0] 25)) w1.heap.size kn sts 0 none 0 [] :=
    ⟨Blk.new _ _ _, World.ownsRow_nil _ _ _ _, by rw [List.take_zero]; exact .nil, fun s hs => (by simp at hs), Frm.refl _ _, by simp⟩
  have hb3 : Below w1.heap.size w1 (w1.alloc (.cells #[.string kn, .int .i64 0, .int .i64 0, .slice none 0 0, .slice none 0 0] 25)) := (Below.refl _ _).alloc (Nat.le_refl _) _
  have B3 := Troupe.hid (B1.out.trans (hb3.mono B1.out.size))
  have K3 := Troupe.hid (K1.out.below hb3 K1.out.lt)
  have hkt : w.heap.size < w1.heap.size := K1.out.lt
  have HJ0 := Troupe.hid J0
  clear e1 hb3 J0 B1 K1
  generalize w1.alloc (.cells #[.string kn, .int .i64 0, .int .i64 0, .slice none 0 0, .slice none 0 0] 25) = w3 at *
  generalize w1.heap.size = gt at *
  go_loopw [10] (fun v10 wr => ∃ (i : Nat) (At : Option Addr) (ct : Nat) (sts' : List St), v10 = .int .i64 i ∧ i ≤ sts.length ∧ J1 w3 wr gt kn sts i At ct sts') (fun v10 _ => sts.length - (intOf v10).toNat)
  case atStart => exact ⟨0, none, 0, [], rfl, Nat.zero_le _, HJ0.out⟩
  case round =>
    obtain ⟨i, At, ct, sts', rfl, hi, hj⟩ := hrel
    obtain ⟨wa, rfl⟩ : ∃ wa : World, wa = wr := ⟨_, rfl⟩
    have HJ := Troupe.hid hj
    have F := hj.fr
    have hbw : Below w.heap.size w wa := B3.out.trans (F.below B3.out.size (fun k hk => by omega))
    have HBW := Troupe.hid hbw
    have KR := Troupe.hid (K3.out.frm F (by omega))
    have ek := KR.out.cell
    clear hj F hbw
    by_cases hlt : i < sts.length
    · obtain ⟨s, hx⟩ : ∃ s, sts[i]? = some s := ⟨_, List.getElem?_eq_getElem hlt⟩
      obtain ⟨hrc, hri, hrl⟩ := HK.out.2.1 s (List.mem_of_getElem? hx)
      obtain ⟨hsn, hre⟩ := HNM.out s (List.mem_of_getElem? hx)
      obtain ⟨b1, o1, hA1, hb1, hc1⟩ := cells_at (sz := 2) (fun _ => rfl) (by decide) (HK.out.1.below HBW.out) hx
      obtain ⟨sn, rows, As, caps⟩ := s
      dsimp only at hrc hri hrl hsn hre hA1
      subst hA1
      have c0 : wa.cell? ⟨b1, o1 + i * 2, none⟩ = some (.string sn) := hc1 0 (by decide) _ rfl
      have c1 : wa.cell? ⟨b1, o1 + i * 2 + 1, none⟩ = some (.slice As rows.length caps) := hc1 1 (by decide) _ rfl
      have hi3 : i < 140737488355328 := by omega
      have hq := run_q hsn
      have HX := Troupe.hid hx
      have HRC := Troupe.hid hrc
      have HRI := Troupe.hid hri
      have HRE := Troupe.hid hre
      have HC := Troupe.hid hc1
      clear hx hrc hri hre hc1
      go_wp2_with fail
      have F2 : Below wa.heap.size wa (wa.alloc (.cells #[.string (qn sn), .slice none 0 0] 45)) := (Below.refl _ _).alloc (Nat.le_refl _) _
      have J20 : J2 (wa.alloc (.cells #[.string (qn sn), .slice none 0 0] 45)) (wa.alloc (.cells #[.string (qn sn), .slice none 0 0] 45)) wa.heap.size ⟨sn, rows, As, caps⟩ 0 none 0 [] :=
        ⟨Blk.new _ _ _, World.ownsRow_nil _ _ _ _, by rw [List.take_zero]; exact .nil, fun s hs => (by simp at hs), Frm.refl _ _, by simp⟩
      have HF2 := Troupe.hid F2
      have HJ20 := Troupe.hid J20
      have hbl : b1 < wa.heap.size := block_lt_of_cell c0
      have hkl : w.heap.size < wa.heap.size := KR.out.lt
      have C1 := Troupe.hid c1
      clear F2 J20 c0 c1 ek hq
      generalize wa.alloc (.cells #[.string (qn sn), .slice none 0 0] 45) = w2 at *
      obtain ⟨gs, hgs⟩ : ∃ gs, gs = wa.heap.size := ⟨_, rfl⟩
      rw [← hgs] at HJ20 HF2 hbl hkl
      rw [← hgs]
      have GS := Troupe.hid hgs
      clear hgs
      go_loopw [12] (fun v12 wr => ∃ (j : Nat) (Ar : Option Addr) (cr : Nat) (rows' : List Rw), v12 = .int .i64 j ∧ j ≤ rows.length ∧ J2 w2 wr gs ⟨sn, rows, As, caps⟩ j Ar cr rows') (fun v12 _ => rows.length - (intOf v12).toNat)
      case atStart => exact ⟨0, none, 0, [], rfl, Nat.zero_le _, HJ20.out⟩
      case round =>
        obtain ⟨j, Ar, cr, rows', rfl, hj, hjj⟩ := hrel
        obtain ⟨wb, rfl⟩ : ∃ wb : World, wb = wr := ⟨_, rfl⟩
        have HJJ := Troupe.hid hjj
        have hb2 : Below gs wa wb := HF2.out.trans (hjj.fr.below (by rw [GS.out]; exact HF2.out.size) (fun k hk => by omega))
        have HB2 := Troupe.hid hb2
        have ek := (KR.out.below hb2 hkl).cell
        have c1 : wb.cell? ⟨b1, o1 + i * 2 + 1, none⟩ = some (.slice As rows.length caps) := (hb2.cell (p := ⟨b1, o1 + i * 2 + 1, none⟩) hbl).trans C1.out
        clear hjj hb2
        by_cases hjl : j < rows.length
        · obtain ⟨r, hr⟩ : ∃ r, rows[j]? = some r := ⟨_, List.getElem?_eq_getElem hjl⟩
          obtain ⟨hec, hen, hel⟩ := HRI.out r (List.mem_of_getElem? hr)
          have hnm := HRE.out r (List.mem_of_getElem? hr)
          have hb3 : Below w.heap.size w wb := HBW.out.trans (HB2.out.mono (Nat.le_of_lt (by omega)))
          obtain ⟨b2, o2, hA2, hb2, hc2⟩ := cells_at (sz := 4) (fun _ => rfl) (by decide) (HRC.out.below hb3) hr
          obtain ⟨rt, ro, rn, re, rA, rcap⟩ := r
          dsimp only at hec hen hel hnm hA2
          subst hA2
          have r0 : wb.cell? ⟨b2, o2 + j * 4, none⟩ = some (.string rt) := hc2 0 (by decide) _ rfl
          have r1 : wb.cell? ⟨b2, o2 + j * 4 + 1, none⟩ = some (.bool ro) := hc2 1 (by decide) _ rfl
          have r2 : wb.cell? ⟨b2, o2 + j * 4 + 2, none⟩ = some (.int .i64 rn) := hc2 2 (by decide) _ rfl
          have r3 : wb.cell? ⟨b2, o2 + j * 4 + 3, none⟩ = some (.slice rA re.length rcap) := hc2 3 (by decide) _ rfl
          have hj3 : j < 140737488355328 := by omega
          have HR := Troupe.hid hr
          have HEC := Troupe.hid (hec.below hb3)
          have HEN := Troupe.hid hnm
          clear hr hec hen hnm hb3 hc2
          go_wp2_with fail
          have F3 : Below wb.heap.size wb ((wb.alloc (.cells #[.string rt, .bool ro, .int .i64 rn, .slice rA re.length rcap] 47)).alloc (.cells #[.string rt, .bool ro, .int .i64 rn, .slice none 0 0] 47)) := ((Below.refl _ _).alloc (Nat.le_refl _) _).alloc (by simp) _
          have J30 : J3 ((wb.alloc (.cells #[.string rt, .bool ro, .int .i64 rn, .slice rA re.length rcap] 47)).alloc (.cells #[.string rt, .bool ro, .int .i64 rn, .slice none 0 0] 47)) ((wb.alloc (.cells #[.string rt, .bool ro, .int .i64 rn, .slice rA re.length rcap] 47)).alloc (.cells #[.string rt, .bool ro, .int .i64 rn, .slice none 0 0] 47)) wb.heap.size (wb.heap.size + 1) ⟨rt, ro, rn, re, rA, rcap⟩ 0 none 0 :=
            ⟨(Blk.new wb 47 [.string rt, .bool ro, .int .i64 rn, .slice rA re.length rcap]).alloc _, (by simpa using Blk.new (wb.alloc (.cells #[.string rt, .bool ro, .int .i64 rn, .slice rA re.length rcap] 47)) 47 [.string rt, .bool ro, .int .i64 rn, .slice none 0 0]), World.ownsRow_nil _ _ _ _, Frm.refl _ _, by omega, by simp⟩
          have HF3 := Troupe.hid F3
          have HJ30 := Troupe.hid J30
          have hgs3 : gs < wb.heap.size := HJJ.out.bs.lt
          clear F3 J30 r0 r1 r2 r3 c1 ek
          generalize (wb.alloc (.cells #[.string rt, .bool ro, .int .i64 rn, .slice rA re.length rcap] 47)).alloc (.cells #[.string rt, .bool ro, .int .i64 rn, .slice none 0 0] 47) = w4 at *
          obtain ⟨gr, hgr⟩ : ∃ gr, gr = wb.heap.size := ⟨_, rfl⟩
          rw [← hgr] at HJ30 HF3 hgs3
          rw [← hgr]
          obtain ⟨gw, hgw⟩ : ∃ gw, gw = gr + 1 := ⟨_, rfl⟩
          rw [← hgw] at HJ30
          rw [← hgw]
          have hgrw : gr < gw := by omega
          have GR := Troupe.hid hgr
          clear hgr hgw
          go_loopw [15] (fun v15 wr => ∃ (m : Nat) (Av : Option Addr) (cv : Nat), v15 = .int .i64 m ∧ m ≤ re.length ∧ J3 w4 wr gr gw ⟨rt, ro, rn, re, rA, rcap⟩ m Av cv) (fun v15 _ => re.length - (intOf v15).toNat)
          case atStart => exact ⟨0, none, 0, rfl, Nat.zero_le _, HJ30.out⟩
          case round =>
            obtain ⟨m, Av, cv, rfl, hm, hjm⟩ := hrel
            obtain ⟨wc, rfl⟩ : ∃ wc : World, wc = wr := ⟨_, rfl⟩
            have HJM := Troupe.hid hjm
            have hb3 : Below gr wb wc := HF3.out.trans (hjm.fr.below (by rw [GR.out]; exact HF3.out.size) (fun k hk => by omega))
            have HB3 := Troupe.hid hb3
            have er := HJM.out.br.cell
            dsimp only [Rw.cells] at er
            clear hjm hb3
            by_cases hml : m < re.length
            · obtain ⟨e, he⟩ : ∃ e, re[m]? = some e := ⟨_, List.getElem?_eq_getElem hml⟩
              have hsn := HEN.out e (List.mem_of_getElem? he)
              obtain ⟨b3, o3, hA3, hb3, hc3⟩ := cells_at (sz := 7) (fun _ => rfl) (by decide) (HEC.out.below (HB3.out.mono (by omega))) he
              obtain ⟨d, ref, slot, name, v, q, delay⟩ := e
              dsimp only at hsn
              subst hA3
              have c0 : wc.cell? ⟨b3, o3 + m * 7, none⟩ = some (.int .i64 d) := hc3 0 (by decide) _ rfl
              have c1 : wc.cell? ⟨b3, o3 + m * 7 + 1, none⟩ = some (.string ref) := hc3 1 (by decide) _ rfl
              have c2 : wc.cell? ⟨b3, o3 + m * 7 + 2, none⟩ = some (.string slot) := hc3 2 (by decide) _ rfl
              have c3 : wc.cell? ⟨b3, o3 + m * 7 + 3, none⟩ = some (.string name) := hc3 3 (by decide) _ rfl
              have c4 : wc.cell? ⟨b3, o3 + m * 7 + 4, none⟩ = some (.int .i64 v) := hc3 4 (by decide) _ rfl
              have c5 : wc.cell? ⟨b3, o3 + m * 7 + 5, none⟩ = some (.int .i64 q) := hc3 5 (by decide) _ rfl
              have c6 : wc.cell? ⟨b3, o3 + m * 7 + 6, none⟩ = some (.int .i64 delay) := hc3 6 (by decide) _ rfl
              have hm3 : m < 140737488355328 := by omega
              have hroom : (m + 1) * 80 ≤ 140737488355328 := by omega
              have HE := Troupe.hid he
              clear he hc3
              have F5 : Below wc.heap.size wc (wc.alloc (.cells #[.int .i64 d, .string ref, .string slot, .string name, .int .i64 v, .int .i64 q, .int .i64 delay] 36)) := (Below.refl _ _).alloc (Nat.le_refl _) _
              have J5 := HJM.out.below F5
              have B5 : Blk (wc.alloc (.cells #[.int .i64 d, .string ref, .string slot, .string name, .int .i64 v, .int .i64 q, .int .i64 delay] 36)) wc.heap.size 36 [.int .i64 d, .string ref, .string slot, .string name, .int .i64 v, .int .i64 q, .int .i64 delay] := Blk.new _ _ _
              have hgwl : gw < wc.heap.size := HJM.out.bw.lt
              have hgwm : w4.heap.size ≤ wc.heap.size := HJM.out.fr.size
              have HOL := Troupe.hid (fun k hk => (HJM.out.own.lt k hk).2)
              have HJ5 := Troupe.hid J5
              have HB5 := Troupe.hid B5
              clear F5 J5 B5
              go_upto_region 17 with (fail)
              clear c0 c1 c2 c3 c4 c5 c6 er
              generalize wc.alloc (.cells #[.int .i64 d, .string ref, .string slot, .string name, .int .i64 v, .int .i64 q, .int .i64 delay] 36) = wd at *
              generalize wc.heap.size = ge at *
              have ed := HB5.out.cell
              have fd := HB5.out.frozen
              by_cases hd : d = 3
              · subst hd
                have hq := run_q hsn
                go_upto_region 19 with (fail)
                clear ed fd
                have FF : Frm (fun k => k = ge) wd (wd.setCell ⟨ge, 3, none⟩ (.string (qn name))) := Frm.one wd ⟨ge, 3, none⟩ _
                have hJ : J3 w4 (wd.setCell ⟨ge, 3, none⟩ (.string (qn name))) gr gw ⟨rt, ro, rn, re, some ⟨b3, o3, none⟩, rcap⟩ m Av cv :=
                  ⟨HJ5.out.br.frm FF (by omega), HJ5.out.bw.frm FF (by omega), own_frm HJ5.out.own FF (fun k hk h' => by have := HOL.out k hk; omega), HJ5.out.fr.trans FF (fun k hk h' => by omega), HJ5.out.ne, HJ5.out.lt⟩
                have hB := HB5.out.set_ 3 (.string (qn name))
                have HNE := Troupe.hid (show nmE ⟨3, ref, slot, name, v, q, delay⟩ = ⟨3, ref, slot, qn name, v, q, delay⟩ by unfold nmE; rw [if_pos rfl])
                clear HJ5 HB5 FF hq
                have HJ5 := Troupe.hid hJ
                have HB5 := Troupe.hid hB
                clear hJ hB
                dsimp only [List.set_cons_zero, List.set_cons_succ] at HB5
                generalize wd.setCell ⟨ge, 3, none⟩ (.string (qn name)) = we at *
                generalize qn name = name' at *
                have e5 := HB5.out.cell
                have ew := HJ5.out.bw.cell
                have fw := HJ5.out.bw.frozen
                have F6 : Below we.heap.size we (we.alloc (.cells #[.int .i64 3, .string ref, .string slot, .string name', .int .i64 v, .int .i64 q, .int .i64 delay] 36)) := (Below.refl _ _).alloc (Nat.le_refl _) _
                have J6 := HJ5.out.below F6
                have HOW := Troupe.hid J6.own
                have C6 := Troupe.hid ((Blk.new we 36 [.int .i64 3, .string ref, .string slot, .string name', .int .i64 v, .int .i64 q, .int .i64 delay]).blk_cells)
                have z6 : w4.heap.size ≤ (we.alloc (.cells #[.int .i64 3, .string ref, .string slot, .string name', .int .i64 v, .int .i64 q, .int .i64 delay] 36)).heap.size := J6.fr.size
                have ew6 := J6.bw.cell
                have fw6 := J6.bw.frozen
                clear F6 J6
                go_wp2_with (at_builtin; refine wpList_app rfl (.tmp 85) (.tmp 87) 28 rfl w4.heap.size 36 info36 Try.underlying28 rfl (by decide) (.slice Av m cv) m (flatE ((re.take m).map nmE)) rfl HOW.out _ (some ⟨we.heap.size, 0, none⟩) 1 1 [.int .i64 3, .string ref, .string slot, .string name', .int .i64 v, .int .i64 q, .int .i64 delay] rfl rfl C6.out (fun h => by cases h) (by simp [Value.oneCell']) (by omega) (by unfold maxLen; omega) z6 ?_; intro v0 w8 h'; obtain ⟨Av', cv', rfl, -⟩ := own_form h'.own; have h2 := HJ5.out.grow HE.out (by rw [HNE.out]; exact h'); have e98 := h2.2.cell; have f98 := h2.2.frozen; have DG := Troupe.hid h2.1; clear h' h2)
                go_roundw
                case rel => exact ⟨m + 1, Av', cv', by go_num, by omega, DG.out⟩
                case measure => simp [intOf]; omega
              · have hdb : (d == 3) = false := by rw [beq_eq_false_iff_ne]; exact hd
                have HNE := Troupe.hid (show nmE ⟨d, ref, slot, name, v, q, delay⟩ = ⟨d, ref, slot, name, v, q, delay⟩ by unfold nmE; rw [if_neg hd])
                go_upto_region 19 with (fail)
                clear ed fd hdb hd
                obtain ⟨we, rfl⟩ : ∃ we : World, we = wd := ⟨_, rfl⟩
                obtain ⟨name', rfl⟩ : ∃ name' : ByteArray, name' = name := ⟨_, rfl⟩
                have e5 := HB5.out.cell
                have ew := HJ5.out.bw.cell
                have fw := HJ5.out.bw.frozen
                have F6 : Below we.heap.size we (we.alloc (.cells #[.int .i64 d, .string ref, .string slot, .string name', .int .i64 v, .int .i64 q, .int .i64 delay] 36)) := (Below.refl _ _).alloc (Nat.le_refl _) _
                have J6 := HJ5.out.below F6
                have HOW := Troupe.hid J6.own
                have C6 := Troupe.hid ((Blk.new we 36 [.int .i64 d, .string ref, .string slot, .string name', .int .i64 v, .int .i64 q, .int .i64 delay]).blk_cells)
                have z6 : w4.heap.size ≤ (we.alloc (.cells #[.int .i64 d, .string ref, .string slot, .string name', .int .i64 v, .int .i64 q, .int .i64 delay] 36)).heap.size := J6.fr.size
                have ew6 := J6.bw.cell
                have fw6 := J6.bw.frozen
                clear F6 J6
                go_wp2_with (at_builtin; refine wpList_app rfl (.tmp 85) (.tmp 87) 28 rfl w4.heap.size 36 info36 Try.underlying28 rfl (by decide) (.slice Av m cv) m (flatE ((re.take m).map nmE)) rfl HOW.out _ (some ⟨we.heap.size, 0, none⟩) 1 1 [.int .i64 d, .string ref, .string slot, .string name', .int .i64 v, .int .i64 q, .int .i64 delay] rfl rfl C6.out (fun h => by cases h) (by simp [Value.oneCell']) (by omega) (by unfold maxLen; omega) z6 ?_; intro v0 w8 h'; obtain ⟨Av', cv', rfl, -⟩ := own_form h'.own; have h2 := HJ5.out.grow HE.out (by rw [HNE.out]; exact h'); have e98 := h2.2.cell; have f98 := h2.2.frozen; have DG := Troupe.hid h2.1; clear h' h2)
                go_roundw
                case rel => exact ⟨m + 1, Av', cv', by go_num, by omega, DG.out⟩
                case measure => simp [intOf]; omega
            · obtain rfl : m = re.length := by omega
              have J2w := HJJ.out.below (by rw [← GR.out]; exact HB3.out : Below wb.heap.size wb wc)
              have hW2 : w2.heap.size ≤ w4.heap.size := Nat.le_trans HJJ.out.fr.size HF3.out.size
              have hown := Go.Joins.ownsRow_le HJM.out.own hW2
              rw [List.take_length] at hown
              have HOWN := Troupe.hid hown
              have HJ2 := Troupe.hid J2w
              have es := HJ2.out.bs.cell
              have fs := HJ2.out.bs.frozen
              have ew := HJM.out.bw.cell
              have F6 : Below wc.heap.size wc (wc.alloc (.cells #[.string rt, .bool ro, .int .i64 rn, .slice Av re.length cv] 47)) := (Below.refl _ _).alloc (Nat.le_refl _) _
              have J6 := HJ2.out.below F6
              have HOW := Troupe.hid J6.own
              have C6 := Troupe.hid ((Blk.new wc 47 [.string rt, .bool ro, .int .i64 rn, .slice Av re.length cv]).blk_cells)
              have z6 : w2.heap.size ≤ (wc.alloc (.cells #[.string rt, .bool ro, .int .i64 rn, .slice Av re.length cv] 47)).heap.size := J6.fr.size
              have es6 := J6.bs.cell
              have fs6 := J6.bs.frozen
              have hj3 : (j + 1) * 56 ≤ 140737488355328 := by omega
              clear F6 J6 J2w hown hW2
              go_wp2_with (at_builtin; refine wpList_app rfl (.tmp 91) (.tmp 93) 43 rfl w2.heap.size 47 info47 Try.underlying43 rfl (by decide) (.slice Ar j cr) j (flatR rows') rfl HOW.out _ (some ⟨wc.heap.size, 0, none⟩) 1 1 [.string rt, .bool ro, .int .i64 rn, .slice Av re.length cv] rfl rfl C6.out (fun h => by cases h) (by simp [Value.oneCell']) (by omega) (by unfold maxLen; omega) z6 ?_; intro v0 w8 h'; obtain ⟨Ar', cr', rfl, -⟩ := own_form h'.own; have h2 := HJ2.out.grow (r' := ⟨rt, ro, rn, re.map nmE, Av, cv⟩) HR.out ⟨rfl, rfl, rfl, rfl⟩ (by dsimp only; rw [List.length_map]; exact HOWN.out) (by unfold Rw.cells; dsimp only; rw [List.length_map]; exact h'); have e98 := h2.2.cell; have f98 := h2.2.frozen; have DG := Troupe.hid h2.1; clear h' h2)
              go_roundw
              case rel => exact ⟨j + 1, Ar', cr', _, by go_num, by omega, DG.out⟩
              case measure => simp [intOf]; omega
        · obtain rfl : j = rows.length := by omega
          have hW3 : w3.heap.size ≤ w2.heap.size := Nat.le_trans HJ.out.fr.size HF2.out.size
          have J1w := HJ.out.below (by rw [← GS.out]; exact HB2.out : Below wa.heap.size wa wb)
          have hown : StOwn wb w3.heap.size ⟨qn sn, rows', Ar, cr⟩ := ⟨by
            have := Go.Joins.ownsRow_le HJJ.out.own hW3
            have hl := HJJ.out.rel.len
            dsimp only at hl ⊢
            rw [List.take_length] at hl
            rw [hl]
            exact this, fun r hr => Go.Joins.ownsRow_le (HJJ.out.rin r hr) hW3⟩
          have hrel : RelS ⟨sn, rows, As, caps⟩ ⟨qn sn, rows', Ar, cr⟩ := ⟨rfl, by have := HJJ.out.rel; rw [List.take_length] at this; exact this⟩
          have hlen : rows'.length = rows.length := by have hl := HJJ.out.rel.len; rwa [List.take_length] at hl
          have HLEN := Troupe.hid hlen
          have HREL := Troupe.hid hrel
          have HOWN := Troupe.hid hown
          have HJ1 := Troupe.hid J1w
          have et := HJ1.out.bt.cell
          have ft := HJ1.out.bt.frozen
          have es := HJJ.out.bs.cell
          have F6 : Below wb.heap.size wb (wb.alloc (.cells #[.string (qn sn), .slice Ar rows.length cr] 45)) := (Below.refl _ _).alloc (Nat.le_refl _) _
          have J6 := HJ1.out.below F6
          have HOW := Troupe.hid J6.own
          have C6 := Troupe.hid ((Blk.new wb 45 [.string (qn sn), .slice Ar rows.length cr]).blk_cells)
          have z6 : w3.heap.size ≤ (wb.alloc (.cells #[.string (qn sn), .slice Ar rows.length cr] 45)).heap.size := J6.fr.size
          have et6 := J6.bt.cell
          have ft6 := J6.bt.frozen
          have hi4 : (i + 1) * 40 ≤ 140737488355328 := by have := HKS.out; omega
          clear F6 J6 J1w hown hrel hlen hW3
          go_wp2_with (at_builtin; refine wpList_app rfl (.tmp 97) (.tmp 99) 23 rfl w3.heap.size 45 info45 Try.underlying23 rfl (by decide) (.slice At i ct) i (flatS sts') rfl HOW.out _ (some ⟨wb.heap.size, 0, none⟩) 1 1 [.string (qn sn), .slice Ar rows.length cr] rfl rfl C6.out (fun h => by cases h) (by simp [Value.oneCell']) (by omega) (by unfold maxLen; omega) z6 ?_; intro v0 w8 h'; obtain ⟨At', ct', rfl, -⟩ := own_form h'.own; have h2 := HJ1.out.grow (s' := ⟨qn sn, rows', Ar, cr⟩) HX.out HREL.out HOWN.out (by unfold St.cells; dsimp only; rw [HLEN.out]; exact h'); have e98 := h2.2.cell; have f98 := h2.2.frozen; have DG := Troupe.hid h2.1; clear h' h2)
          go_roundw
          case rel => exact ⟨i + 1, At', ct', _, by go_num, by omega, DG.out⟩
          case measure => simp [intOf]; omega
    · obtain rfl : i = sts.length := by omega
      have hrel := HJ.out.rel
      rw [List.take_length] at hrel
      have hlen : sts'.length = sts.length := hrel.len
      have DO1 := Troupe.hid (do_any ⟨kn, kl, kw, Ac, nc, cc, A, cap, sts⟩ state tag n hn wa ((HK.out.below HBW.out).mono HBW.out.size))
      obtain ⟨P, hP⟩ : ∃ P, planV sts state tag n = P := ⟨_, rfl⟩
      have hps := plan_size HNM.out state tag n hss
      have hpn := plan_named hrel state tag n
      rw [hP] at hps hpn
      dsimp only [Kd.val] at DO1
      rw [hP] at DO1
      have HPN := Troupe.hid hpn
      have HREL := Troupe.hid hrel
      have HLEN := Troupe.hid hlen
      have HPS := Troupe.hid hps
      have hta := HJ.out.fr.size
      clear hrel hlen hpn hps hP
      go_wp2_with fail
      refine DO1.out.mono ?_
      rintro e w5 ⟨v1, rfl, ho1, hb5⟩
      have HB5 := Troupe.hid (HBW.out.trans (hb5.mono HBW.out.size))
      have HJ5 := Troupe.hid (HJ.out.below hb5)
      obtain ⟨A1, c1, rfl, hl1, hm1, -, -, -⟩ := own_form ho1
      have hq := run_q HPS.out
      obtain ⟨Ps, Pe, Pst, Pstop, Pf⟩ := P
      dsimp only [Pl.val] at *
      have F6 : Below w5.heap.size w5 (w5.alloc (.cells #[.bool Ps, .slice A1 Pe.length c1, .string (qn Pst), .bool Pstop, .string Pf] 30)) := (Below.refl _ _).alloc (Nat.le_refl _) _
      have b6 : Blk (w5.alloc (.cells #[.bool Ps, .slice A1 Pe.length c1, .string (qn Pst), .bool Pstop, .string Pf] 30)) w5.heap.size 30 [.bool Ps, .slice A1 Pe.length c1, .string (qn Pst), .bool Pstop, .string Pf] := Blk.new _ _ _
      have HB6 := Troupe.hid (HB5.out.trans (F6.mono HB5.out.size))
      have HJ6 := Troupe.hid (HJ5.out.below F6)
      have HO6 := Troupe.hid (own_below ho1 F6)
      have HP6 := Troupe.hid b6
      clear hb5 ho1 F6 b6 DO1 ek
      go_upto_region 24 with (fail)
      clear hq
      generalize w5.alloc (.cells #[.bool Ps, .slice A1 Pe.length c1, .string (qn Pst), .bool Pstop, .string Pf] 30) = w6 at *
      generalize w5.heap.size = gp at *
      let S1 : World → Prop := fun w' => Below w6.heap.size w6 w'
      have hne : Nonempty (SW S1) := ⟨⟨w6, Below.refl _ _⟩⟩
      have hqs := run_q hss
      have fp : ∀ (x : SW S1) (i : Nat), x.w.cell? ⟨gp, i, none⟩ = [Value.bool Ps, .slice A1 Pe.length c1, .string (qn Pst), .bool Pstop, .string Pf][i]? := fun x i => (HP6.out.below x.h HP6.out.lt).cell i
      have ft : ∀ (x : SW S1) (i : Nat), x.w.cell? ⟨gt, i, none⟩ = [Value.string kn, .int .i64 0, .int .i64 0, .slice none 0 0, .slice At sts.length ct][i]? := fun x i => (HJ6.out.bt.below x.h HJ6.out.bt.lt).cell i
      refine region_plan (S := Cls S1) (.read 0 (.read 1 (.read 2 (.read 3 (.read 4 (.read 5 (.one 6 .tail))))))) 7 (by kernel_rfl) (by kernel_rfl) (fun _ _ d _ _ h => by cases d <;> exact h) ?_
      intro w7 hh o1' o2' o3'
      have F7 : Below w6.heap.size w6 w7 := (Frm.of_heap (S := fun _ => False) hh o1' o2' o3').below (Nat.le_refl _) (fun _ h => h.elim)
      clear hh o1' o2' o3'
      refine ⟨Cls.of F7, ?_⟩
      repeat (refine wpPlan_read rfl (fun K hK => ?_); go_simp; refine hK _ ?_; clear hK K)
      clear fp ft hne hqs
      have J7 := HJ6.out.below F7
      have hk7 : KindIn w7 w7.heap.size ⟨kn, 0, 0, none, 0, 0, At, ct, sts'⟩ := by
        refine ⟨?_, fun s hs => ?_, by dsimp only; rw [HLEN.out]; omega⟩
        · exact (own_cells J7.own)
        · obtain ⟨hs1, hs2⟩ := J7.rin s hs
          obtain ⟨s0, hs0, hrs⟩ := HREL.out.mem hs
          obtain ⟨-, hri, hrl⟩ := HK.out.2.1 s0 hs0
          refine ⟨own_cells hs1, fun r hr => ?_, by rw [hrs.rows.len]; exact hrl⟩
          obtain ⟨r0, hr0, hrr⟩ := hrs.rows.mem hr
          obtain ⟨A', c', e', -, -, -, hnil, -⟩ := own_form (hs2 r hr)
          simp only [Value.slice.injEq, true_and] at e'
          obtain ⟨rfl, rfl⟩ := e'
          exact ⟨own_cells (hs2 r hr), fun h => (hnil h).2, by rw [hrr.effs, List.length_map]; exact (hri r0 hr0).2.2⟩
      have DO2 := Troupe.hid (do_any ⟨kn, 0, 0, none, 0, 0, At, ct, sts'⟩ (qn state) tag n hn w7 hk7)
      dsimp only [Kd.val] at DO2
      rw [HPN.out, HLEN.out] at DO2
      have HF7 := Troupe.hid (HB6.out.trans (F7.mono HB6.out.size))
      have HO7 := Troupe.hid (own_below HO6.out F7)
      have F67 := Troupe.hid F7
      clear F7 J7 hk7
      refine wpPlan_one rfl ?_
      go_wp2_with fail
      refine DO2.out.mono ?_
      rintro e w8 ⟨v2, rfl, ho2, hb⟩
      have ho1 := own_below HO7.out hb
      obtain ⟨A2, c2, rfl, -, -, hc2, -, -⟩ := own_form ho2
      have SM := Troupe.hid (same_eq (nmP ⟨Ps, Pe, Pst, Pstop, Pf⟩) A1 A2 c1 c2 w8 (own_cells ho1) hc2 (by dsimp only [nmP]; unfold maxLen at hm1; omega))
      have HF8 := Troupe.hid (HF7.out.trans (hb.mono HF7.out.size))
      have F68 := Troupe.hid (F67.out.trans (hb.mono F67.out.size))
      clear hb ho1 ho2 hc2 DO2 hl1 hm1
      dsimp only [nmP, Pl.val] at SM ⊢
      go_wp2_with fail
      refine ⟨Cls.of F68.out, ?_⟩
      refine wpPlan_tail ?_
      simp only [List.drop_succ_cons, List.drop_zero]
      go_wp2_with fail
      refine SM.out.mono ?_
      rintro e w9 ⟨rfl, hb⟩
      have HF9 := Troupe.hid (HF8.out.trans (hb.mono HF8.out.size))
      clear hb
      go_wp2_with fail
      go_ret
      exact ⟨rfl, HF9.out⟩
end Go.Proofs.Ytfeeajodgcdflaa
