/- ActEnds: the law and the walk. -/
import Derived.Test.YtfeeajodgcdflaaAlive
namespace Go.Proofs.Ytfeeajodgcdflaa
open Go.RowKit Go.Maps Go.Troupe

def GoodE (e : Eff) : Prop := e.d ≠ 4 ∧ e.d ≠ 3 ∧ e.d ≠ 11 ∧ e.d ≠ 12 ∧ ((e.d = 1 ∨ e.d = 8) → e.v = 2)
structure GoodP (st0 : ByteArray) (p : Pl) : Prop where
  stop : p.stop = true → p.fail = noS
  stash : p.stash = true → p = ⟨true, [], st0, false, noS⟩
  effs : ∀ e ∈ p.effs, GoodE e
theorem doGo_good (n : Int) (st0 : ByteArray) : ∀ (l : List Eff) (first : Bool) (p : Pl), p.stash = false → p.stop = false → p.fail = noS → (∀ e ∈ p.effs, GoodE e) → GoodP st0 (doGo n st0 first l p)
  | [], first, p, h1, h2, h3, h4 => by
    unfold doGo
    exact ⟨fun h => absurd (h.symm.trans h2) (by decide), fun h => absurd (h.symm.trans h1) (by decide), h4⟩
  | e :: es, first, p, h1, h2, h3, h4 => by
    unfold doGo
    split
    · split
      · exact ⟨fun h => (by cases h), fun _ => rfl, by simp⟩
      · exact doGo_good n st0 es false p h1 h2 h3 h4
    · rename_i k4
      split
      · exact doGo_good n st0 es false _ h1 h2 h3 h4
      · rename_i k3
        split
        · exact ⟨fun _ => h3, fun h => absurd (h.symm.trans h1) (by decide), h4⟩
        · rename_i k11
          split
          · exact ⟨fun h => absurd (h.symm.trans h2) (by decide), fun h => absurd (h.symm.trans h1) (by decide), h4⟩
          · rename_i k12
            split
            · refine doGo_good n st0 es false _ h1 h2 h3 (fun x hx => ?_)
              rcases List.mem_append.1 hx with h | h
              · exact h4 x h
              · simp at h; subst h; exact ⟨k4, k3, k11, k12, fun _ => rfl⟩
            · rename_i k18
              refine doGo_good n st0 es false _ h1 h2 h3 (fun x hx => ?_)
              rcases List.mem_append.1 hx with h | h
              · exact h4 x h
              · simp at h; subst h; exact ⟨k4, k3, k11, k12, fun h => absurd h k18⟩
theorem planV_good (sts : List St) (state tag : ByteArray) (n : Int) : GoodP state (planV sts state tag n) := by
  unfold planV
  cases rowV sts state tag n with
  | none => exact ⟨fun h => absurd h Bool.false_ne_true, fun h => absurd h Bool.false_ne_true, by simp⟩
  | some r => exact doGo_good n state r.effs true _ rfl rfl rfl (by simp)

set_option maxRecDepth 100000 in
set_option maxHeartbeats 2000000 in
theorem ends_walk (k : Kd) (state tag : ByteArray) (n : Int) (hn : -9223372036854775808 ≤ n ∧ n ≤ 9223372036854775807) (w : World) (hk : KindIn w w.heap.size k) :
    Calls Try.prog 7 #[k.val, .string state, .string tag, .int .i64 n] w fun e w' => e = .returned (.bool true) ∧ Below w.heap.size w w' := by
  have F0 : Below w.heap.size w (w.alloc (.cells #[.string k.name, .int .i64 k.limit, .int .i64 k.within, .slice k.Ac k.nc k.cc, .slice k.A k.sts.length k.cap] 25)) := (Below.refl _ _).alloc (Nat.le_refl _) _
  have K0 : Blk (w.alloc (.cells #[.string k.name, .int .i64 k.limit, .int .i64 k.within, .slice k.Ac k.nc k.cc, .slice k.A k.sts.length k.cap] 25)) w.heap.size 25 [.string k.name, .int .i64 k.limit, .int .i64 k.within, .slice k.Ac k.nc k.cc, .slice k.A k.sts.length k.cap] := Blk.new _ _ _
  have HF := Troupe.hid F0
  have HK0 := Troupe.hid K0
  have HK := Troupe.hid hk
  have GP := Troupe.hid (planV_good k.sts state tag n)
  clear F0 K0 hk
  dsimp only [Kd.val]
  go_enter Try.func7, Try.ntmps7
  go_wp2_with fail
  generalize w.alloc (.cells #[.string k.name, .int .i64 k.limit, .int .i64 k.within, .slice k.Ac k.nc k.cc, .slice k.A k.sts.length k.cap] 25) = w0 at *
  refine (alive_any w0).mono ?_
  rintro e w1 ⟨rfl, hb⟩
  have e1 := (HK0.out.below hb HK0.out.lt).cell
  have HB1 := Troupe.hid (HF.out.trans (hb.mono HF.out.size))
  have hk1 := (HK.out.below HB1.out).mono (B' := w1.heap.size) HB1.out.size
  have DO := Troupe.hid (do_any k state tag n hn w1 hk1)
  clear hb hk1
  dsimp only [Kd.val] at DO
  go_wp2_with fail
  refine DO.out.mono ?_
  rintro e w2 ⟨v, rfl, ho, hb⟩
  have gp := GP.out
  generalize planV k.sts state tag n = P at *
  obtain ⟨stash, effs, stt, stop, fail⟩ := P
  obtain ⟨Av, cv, rfl, hcap, hcm, -⟩ := own_form ho
  have h1 := gp.stop
  have h2 := gp.stash
  have h3 := gp.effs
  dsimp only at h1 h2 h3 ho hcap
  have HO := Troupe.hid ho
  have B2 := Troupe.hid (HB1.out.trans (hb.mono HB1.out.size))
  have H3 := Troupe.hid h3
  unfold maxLen at hcm
  clear ho hb gp h3 e1 DO GP
  dsimp only [Pl.val]
  have hfin : ∀ (st : Bool) (sa : ByteArray) (sb : Bool) (fa : ByteArray), Below w.heap.size w (w2.alloc (.cells #[.bool st, .slice Av effs.length cv, .string sa, .bool sb, .string fa] 30)) := fun _ _ _ _ => B2.out.alloc B2.out.size _
  have HFIN := Troupe.hid hfin
  clear hfin
  cases stash with
  | true =>
    have h2' := h2 rfl
    simp only [Pl.mk.injEq] at h2'
    obtain ⟨-, rfl, rfl, rfl, rfl⟩ := h2'
    unfold noS at *
    clear h1 h2
    go_wp2_with fail
    go_loopw [10] (fun v10 wr => v10 = .int .i64 0 ∧ wr = w2.alloc (.cells #[.bool true, .slice Av 0 cv, .string stt, .bool false, .string ⟨#[]⟩] 30)) (fun _ _ => 0)
    case atStart => exact ⟨rfl, rfl⟩
    case round =>
      obtain ⟨rfl, rfl⟩ := hrel
      go_wp2_with fail
      go_ret
      exact ⟨rfl, HFIN.out _ _ _ _⟩
  | false =>
    clear h2
    have K3 : Blk (w2.alloc (.cells #[.bool false, .slice Av effs.length cv, .string stt, .bool stop, .string fail] 30)) w2.heap.size 30 [.bool false, .slice Av effs.length cv, .string stt, .bool stop, .string fail] := Blk.new _ _ _
    have F3 : Below w2.heap.size w2 (w2.alloc (.cells #[.bool false, .slice Av effs.length cv, .string stt, .bool stop, .string fail] 30)) := (Below.refl _ _).alloc (Nat.le_refl _) _
    have C3 := Troupe.hid (own_cells (own_below HO.out F3))
    have B3 := Troupe.hid (HFIN.out false stt stop fail)
    have hst : stop = false ∨ (stop = true ∧ fail = noS) := by
      cases stop with
      | false => exact .inl rfl
      | true => exact .inr ⟨rfl, h1 rfl⟩
    have K3H := Troupe.hid K3
    clear h1 F3 K3
    unfold noS at hst
    have LL := Troupe.hid hcap
    have LM := Troupe.hid hcm
    clear hcap hcm
    rcases hst with rfl | ⟨rfl, rfl⟩
    · skip
      go_upto_block 3 with (fail)
      generalize w2.alloc (.cells #[.bool false, .slice Av effs.length cv, .string stt, .bool false, .string fail] 30) = w3 at *
      have e3 := K3H.out.cell
      go_loopw [10] (fun v10 wr => ∃ i : Nat, v10 = .int .i64 i ∧ i ≤ effs.length ∧ wr = w3) (fun v10 _ => effs.length - (intOf v10).toNat)
      case atStart => exact ⟨0, rfl, Nat.zero_le _, rfl⟩
      case round =>
        obtain ⟨i, rfl, hi, hw3⟩ := hrel
        subst hw3
        by_cases hlt : i < effs.length
        · obtain ⟨e, hx⟩ : ∃ e, effs[i]? = some e := ⟨_, List.getElem?_eq_getElem hlt⟩
          have hge := H3.out e (List.mem_of_getElem? hx)
          obtain ⟨b, off, hA, _, hc⟩ := cells_at (sz := 7) (fun _ => rfl) (by decide) C3.out hx
          obtain ⟨d, ref, slot, name, v, m, delay⟩ := e
          have c0 : wr.cell? ⟨b, off + i * 7, none⟩ = some (.int .i64 d) := hc 0 (by decide) _ rfl
          have c4 : wr.cell? ⟨b, off + i * 7 + 4, none⟩ = some (.int .i64 v) := hc 4 (by decide) _ rfl
          subst hA
          unfold GoodE at hge
          obtain ⟨k4, k3, k11, k12, k18⟩ := hge
          dsimp only at k4 k3 k11 k12 k18
          have b4 : (d == 4) = false := by rw [beq_eq_false_iff_ne]; exact k4
          have b3 : (d == 3) = false := by rw [beq_eq_false_iff_ne]; exact k3
          have b11 : (d == 11) = false := by rw [beq_eq_false_iff_ne]; exact k11
          have b12 : (d == 12) = false := by rw [beq_eq_false_iff_ne]; exact k12
          have hi3 : i < 9223372036854775807 := by have := LL.out; have := LM.out; omega
          have h18 : ((d == 1) = true ∧ v = 2) ∨ ((d == 1) = false ∧ (d == 8) = true ∧ v = 2) ∨ ((d == 1) = false ∧ (d == 8) = false) := by
            by_cases h1 : d = 1
            · exact .inl ⟨by rw [h1]; rfl, k18 (.inl h1)⟩
            · by_cases h8 : d = 8
              · exact .inr (.inl ⟨by rw [h8]; rfl, by rw [h8]; rfl, k18 (.inr h8)⟩)
              · exact .inr (.inr ⟨by rw [beq_eq_false_iff_ne]; exact h1, by rw [beq_eq_false_iff_ne]; exact h8⟩)
          clear hc hx k4 k3 k11 k12 k18
          rcases h18 with ⟨b1, rfl⟩ | ⟨b1, b8, rfl⟩ | ⟨b1, b8⟩ <;> (
            go_wp2_with fail
            go_roundw
            case rel => exact ⟨i + 1, by go_num, by omega, trivial⟩
            case measure => simp [intOf]; omega)
        · have hil : i = effs.length := by omega
          subst hil
          go_wp2_with fail
          go_ret
          exact ⟨rfl, B3.out⟩
    · skip
      go_upto_block 3 with (fail)
      generalize w2.alloc (.cells #[.bool false, .slice Av effs.length cv, .string stt, .bool true, .string ⟨#[]⟩] 30) = w3 at *
      have e3 := K3H.out.cell
      go_loopw [10] (fun v10 wr => ∃ i : Nat, v10 = .int .i64 i ∧ i ≤ effs.length ∧ wr = w3) (fun v10 _ => effs.length - (intOf v10).toNat)
      case atStart => exact ⟨0, rfl, Nat.zero_le _, rfl⟩
      case round =>
        obtain ⟨i, rfl, hi, hw3⟩ := hrel
        subst hw3
        by_cases hlt : i < effs.length
        · obtain ⟨e, hx⟩ : ∃ e, effs[i]? = some e := ⟨_, List.getElem?_eq_getElem hlt⟩
          have hge := H3.out e (List.mem_of_getElem? hx)
          obtain ⟨b, off, hA, _, hc⟩ := cells_at (sz := 7) (fun _ => rfl) (by decide) C3.out hx
          obtain ⟨d, ref, slot, name, v, m, delay⟩ := e
          have c0 : wr.cell? ⟨b, off + i * 7, none⟩ = some (.int .i64 d) := hc 0 (by decide) _ rfl
          have c4 : wr.cell? ⟨b, off + i * 7 + 4, none⟩ = some (.int .i64 v) := hc 4 (by decide) _ rfl
          subst hA
          unfold GoodE at hge
          obtain ⟨k4, k3, k11, k12, k18⟩ := hge
          dsimp only at k4 k3 k11 k12 k18
          have b4 : (d == 4) = false := by rw [beq_eq_false_iff_ne]; exact k4
          have b3 : (d == 3) = false := by rw [beq_eq_false_iff_ne]; exact k3
          have b11 : (d == 11) = false := by rw [beq_eq_false_iff_ne]; exact k11
          have b12 : (d == 12) = false := by rw [beq_eq_false_iff_ne]; exact k12
          have hi3 : i < 9223372036854775807 := by have := LL.out; have := LM.out; omega
          have h18 : ((d == 1) = true ∧ v = 2) ∨ ((d == 1) = false ∧ (d == 8) = true ∧ v = 2) ∨ ((d == 1) = false ∧ (d == 8) = false) := by
            by_cases h1 : d = 1
            · exact .inl ⟨by rw [h1]; rfl, k18 (.inl h1)⟩
            · by_cases h8 : d = 8
              · exact .inr (.inl ⟨by rw [h8]; rfl, by rw [h8]; rfl, k18 (.inr h8)⟩)
              · exact .inr (.inr ⟨by rw [beq_eq_false_iff_ne]; exact h1, by rw [beq_eq_false_iff_ne]; exact h8⟩)
          clear hc hx k4 k3 k11 k12 k18
          rcases h18 with ⟨b1, rfl⟩ | ⟨b1, b8, rfl⟩ | ⟨b1, b8⟩ <;> (
            go_wp2_with fail
            go_roundw
            case rel => exact ⟨i + 1, by go_num, by omega, trivial⟩
            case measure => simp [intOf]; omega)
        · have hil : i = effs.length := by omega
          subst hil
          go_wp2_with fail
          go_ret
          exact ⟨rfl, B3.out⟩
end Go.Proofs.Ytfeeajodgcdflaa
