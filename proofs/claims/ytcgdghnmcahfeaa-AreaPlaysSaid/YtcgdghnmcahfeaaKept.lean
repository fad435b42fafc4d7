/- AreaKept: the walk. -/
import Derived.Test.YtcgdghnmcahfeaaPlay
namespace Go.Proofs.Ytcgdghnmcahfeaa
open Go.RowKit Go.Maps Go.Troupe

theorem Area.trim {w : World} {p N : Nat} {S : Nat → Prop} {l : List Rg} (h : Area w p S N l) : Area w p (fun k => S k ∧ k < w.heap.size) N l := by
  have hp := h.lt
  obtain ⟨v, h1, h2, h3⟩ := h.ex
  exact ⟨⟨v, h1, h2, fun b hb => ⟨h3 b hb, (h3 b hb).2⟩⟩, ⟨h.sS, hp⟩, h.ok, h.hN⟩
theorem Ar.trim {w0 wk : World} {p N : Nat} {l : List Rg} (h : Ar w0 wk p N l) : ∃ S, ArS w0 wk p S N l ∧ ∀ k, S k → k < wk.heap.size := by
  obtain ⟨S, h⟩ := h
  exact ⟨_, ⟨h.ar.trim, fun k hk => h.lo k hk.1, h.be⟩, fun k hk => hk.2⟩
/-- What is written over in blocks that are newer than the area leaves the area. -/
theorem Ar.newer {w0 wk w' : World} {p N : Nat} {l : List Rg} {T : Nat → Prop} (h : Ar w0 wk p N l) (hb : Below wk.heap.size wk w') {w2 : World} (hf : Frm T w' w2) (hT : ∀ k, T k → wk.heap.size ≤ k) : Ar w0 w2 p N l :=
  h.below (hb.trans (hf.below hb.size hT))
/-- A row of regions, written over in one place. -/
theorem own_write2 {w : World} {base n cap : Nat} {A : Option Addr} {xs : List Value} (h : w.ownsRow base 47 2 (.slice A n cap) n xs) {i : Nat} (hi : i < n) (u v : Value) :
    ∃ g x y, A = some ⟨g, 0, none⟩ ∧ w.cell? ⟨g, i * 2, none⟩ = some x ∧ w.cell? ⟨g, i * 2 + 1, none⟩ = some y ∧ (∀ j, w.frozen? ⟨g, j, none⟩ = false) ∧
      (∃ ys, ((w.setCell ⟨g, i * 2, none⟩ u).setCell ⟨g, i * 2 + 1, none⟩ v).ownsRow base 47 2 (.slice A n cap) n ys) ∧ Frm (fun k => (Value.slice A n cap).ownBlock = some k) w ((w.setCell ⟨g, i * 2, none⟩ u).setCell ⟨g, i * 2 + 1, none⟩ v) := by
  rcases own_blk h with ⟨-, h0, -⟩ | ⟨g, cs, rfl, hbk, hcl, hbg, hqc, hcm, htk⟩
  · omega
  · have hlen : i * 2 + 1 < cs.length := by omega
    refine ⟨g, cs[i * 2], cs[i * 2 + 1], rfl, ?_, ?_, hbk.frozen, ⟨_, blk_own (n := n) ((hbk.set_ (i * 2) u).set_ (i * 2 + 1) v) (by simpa using hcl) hbg hqc hcm⟩, ((Frm.one w ⟨g, i * 2, none⟩ u).trans (Frm.one _ ⟨g, i * 2 + 1, none⟩ v) (fun _ _ h => h)).mono (fun k _ hk => by simp [Value.ownBlock, hk])⟩
    · rw [hbk.cell]; exact List.getElem?_eq_getElem (by omega)
    · rw [hbk.cell]; exact List.getElem?_eq_getElem hlen
/-- What is written over: a row of regions, its cells whatever. -/
def Wrt (base : Nat) (wd wr : World) (A : Option Addr) (n c : Nat) : Prop := (∃ ys, wr.ownsRow base 47 2 (.slice A n c) n ys) ∧ Frm (fun k => (Value.slice A n c).ownBlock = some k) wd wr

set_option maxRecDepth 100000 in
set_option maxHeartbeats 4000000 in
theorem kept_walk (n : Int) (Ad : Option Addr) (len cap : Nat) (s : List Opn) (w : World) (hl : s.length = len) (hm : len ≤ maxLen) (hc : Cells w w.heap.size Ad (flatO s)) :
    Calls Try.prog 7 #[.int .i64 n, .slice Ad len cap] w fun e w' => e = .returned (.bool true) ∧ Below w.heap.size w w' := by
  have C0 := Troupe.hid hc
  have HM := Troupe.hid hm
  clear hc hm
  by_cases hn : 2000 < n
  · go_enter Try.func7, Try.ntmps7
    go_wp2_with fail
    refine (alive_any w).mono ?_
    rintro e w1 ⟨rfl, hb⟩
    have B1 := Troupe.hid hb
    clear hb
    go_wp2_with fail
    go_ret
    exact ⟨rfl, B1.out⟩
  go_enter Try.func7, Try.ntmps7
  go_wp2_with fail
  refine (alive_any w).mono ?_
  rintro e w1 ⟨rfl, hb⟩
  have B1 := Troupe.hid hb
  clear hb
  go_wp2_with fail
  refine (play_any n Ad len cap s w1 hl HM.out ((C0.out.below B1.out).mono B1.out.size)).mono ?_
  rintro e w2 ⟨p, rfl, h2⟩
  generalize playV (areaN n) [] s = L at h2
  have hle := h2.ok.length
  have hNN := h2.hN
  have A2 : Hid (Ar w w2 p (areaN n) L) := by
    obtain ⟨S, h⟩ := h2
    exact ⟨S, h.ar, fun k hk => Nat.le_trans B1.out.size (h.lo k hk), B1.out.trans (h.be.mono B1.out.size)⟩
  clear h2
  obtain ⟨q, hq⟩ : ∃ q, q = L.length := ⟨_, rfl⟩
  go_wp2_with fail
  refine (flat_any w2 A2.out.choose_spec.ar).mono ?_
  rintro e w3 ⟨A3, c3, rfl, ho, hb⟩
  have O3 := Troupe.hid ho
  have B3 := Troupe.hid hb
  have A3' := Troupe.hid (A2.out.below hb)
  clear ho hb
  go_wp2_with fail
  refine (regions_any w3 A3'.out.choose_spec.ar).mono ?_
  rintro e w4 ⟨v, rfl, ho, hb⟩
  obtain ⟨A4, c4, rfl, -⟩ := own_form ho
  have O4 := Troupe.hid ho
  have B4 := Troupe.hid hb
  clear ho hb
  have AR4 := Troupe.hid (A3'.out.below B4.out)
  clear hq q
  go_wp2_with fail
  go_loopw [8] (fun v8 wr => ∃ i : Nat, i ≤ L.length ∧ v8 = .int .i64 i ∧ Wrt w3.heap.size w4 wr A4 L.length c4) (fun v8 _ => L.length - (intOf v8).toNat)
  case atStart => exact ⟨0, Nat.zero_le _, rfl, ⟨_, O4.out⟩, Frm.refl _ _⟩
  case round =>
    obtain ⟨i, hi, rfl, hw⟩ := hrel
    have W := Troupe.hid hw
    clear hw
    by_cases hlt : i < L.length
    · obtain ⟨ys, hys⟩ := W.out.1
      obtain ⟨g, x, y, hA, d0, d1, df, ⟨zs, hzs⟩, hf⟩ := own_write2 hys hlt (.int .i64 3) (.int .i64 9)
      subst hA
      have W2 : Hid (Wrt w3.heap.size w4 ((wr.setCell ⟨g, i * 2, none⟩ (.int .i64 3)).setCell ⟨g, i * 2 + 1, none⟩ (.int .i64 9)) (some ⟨g, 0, none⟩) L.length c4) := ⟨⟨_, hzs⟩, W.out.2.trans hf (fun _ _ h => h)⟩
      clear hys hzs hf
      go_wp2_with fail
      go_roundw
      case rel => exact ⟨i + 1, by omega, by go_num, W2.out⟩
      case measure => simp [intOf]; omega
    · obtain rfl : i = L.length := by omega
      obtain ⟨ys, hys⟩ := W.out.1
      have W3 := Troupe.hid W.out.2
      have hs4 := B4.out.size
      have hsr := W.out.2.size
      have F1 : Frm (fun _ => False) wr (wr.alloc (.cells #[.int .i64 1, .int .i64 0] 47)) := (Frm.refl _ wr).alloc _
      have V1 := Troupe.hid (own_frm hys F1 (fun _ _ h => h))
      have C1 := Troupe.hid (Blk.blk_cells (Blk.new wr 47 [.int .i64 1, .int .i64 0]))
      have hw1 : (wr.alloc (.cells #[.int .i64 1, .int .i64 0] 47)).heap.size = wr.heap.size + 1 := by simp
      have FA1 := Troupe.hid (W3.out.trans F1 (fun _ _ h => h.elim))
      clear hys F1
      have hq1 : (((L.length * 2 : Nat) : Int)).tdiv 2 = (L.length : Int) := by rw [show ((L.length * 2 : Nat) : Int) = (L.length : Int) * 2 by omega]; exact Int.mul_tdiv_cancel _ (by decide)
      go_wp2_with (at_builtin; refine wpList_app rfl (.tmp 30) (.tmp 32) 44 rfl w3.heap.size 47 info47 Try.underlying44 rfl (by decide) (.slice A4 L.length c4) L.length ys rfl V1.out (wr.heap.size + 1) (some ⟨wr.heap.size, 0, none⟩) 1 1 [.int .i64 1, .int .i64 0] rfl rfl C1.out (fun h => by cases h) (by simp [Value.oneCell']) (by omega) (by unfold maxLen; omega) (by omega) ?_; intro v5 w5 h5; obtain ⟨A5, c5, rfl, -⟩ := own_form h5.own; have H5 := Troupe.hid h5; clear h5)
      have FB := FA1.out.trans H5.out.frm (fun _ _ h => h)
      have BB : Below w3.heap.size w3 w5 := B4.out.trans (FB.below B4.out.size (fun k hk => (O4.out.lt k hk).1))
      have A5' := Troupe.hid (A3'.out.below BB)
      have O5 := Troupe.hid (own_below O3.out BB)
      clear FB BB
      refine (flat_any w5 A5'.out.choose_spec.ar).mono ?_
      rintro e w6 ⟨A6, c6, rfl, ho, hb⟩
      have O6 := Troupe.hid ho
      have O7 := Troupe.hid (own_below O5.out hb)
      have A6' := Troupe.hid (A5'.out.below hb)
      clear ho hb
      go_wp2_with fail
      refine (ints_eq A6 (L.length * 2) c6 A3 c3 (flatI L) w6 (flatI_len L) (by omega) (own_cells O6.out) (own_cells O7.out)).mono ?_
      rintro e w7 ⟨rfl, hb⟩
      have B7 := Troupe.hid hb
      clear hb
      go_wp2_with fail
      go_ret
      exact ⟨rfl, (A6'.out.below B7.out).be⟩
end Go.Proofs.Ytcgdghnmcahfeaa
