/- AuditOnce: its walk. -/
import Derived.Test.YtkjjhndccelbcaaAlive
import Derived.Test.YtkjjhndccelbcaaLawOnce
import Derived.Test.YtkjjhndccelbcaaPlan
namespace Go.Proofs.Ytkjjhndccelbcaa
open Go.RowKit Go.Maps Go.Troupe

attribute [local go_sem] reads readAt readUpon Cls

theorem once_law (ks : List Kf) (evs : List Ev) : ∃ (q : Int) (t : Nat), checkV ks evs = (q, (t : Int)) ∧ t ≤ evs.length ∧
    ∀ (i j : Nat) (a b : Ev), j < i → i < t → evs[j]? = some a → evs[i]? = some b → twiceV a b = false := by
  by_cases hp : progB ks = true
  · exact ⟨1, 0, by simp [checkV, hp], Nat.zero_le _, fun i j a b _ h => by omega⟩
  · obtain ⟨t, h2, h3, -⟩ := runV_spec ks evs bk0 0
    rw [Nat.zero_add] at h3
    exact ⟨(runV ks bk0 0 evs).1, t, by rw [checkV, if_neg hp, ← h3], h2, fun i j a b hji hit ha hb => once ks h3 hji hit ha hb⟩
def evZ0 : Ev := ⟨0, 0, 0, 0, 0, ⟨#[]⟩, 0, 0, false⟩
theorem wrap_succ {n : Nat} (h : n ≤ 300) : IntKind.i64.wrap ((n : Int) + 1) = ((n + 1 : Nat) : Int) := by rw [IntKind.wrap_i64]; omega
set_option maxRecDepth 100000 in
set_option maxHeartbeats 4000000 in
theorem once_any (w : World) {Ak Al : Option Addr} {ck cl : Nat} {ks : List Kf} {evs : List Ev} (hs : Stands w w.heap.size Ak ck ks) (hl : Cells w w.heap.size Al (flatV evs)) (_hlc : evs.length ≤ cl) (_hln : Al = none → cl = 0)
    (hle : ∀ e ∈ evs, EvOk e) (hll : evs.length < 281474976710656) :
    Calls Try.prog 5 #[.agg #[.slice Ak ks.length ck], .slice Al evs.length cl] w fun e w' => e = .returned (.bool true) ∧ Below w.heap.size w w' := by
  have F0 : Below w.heap.size w (w.alloc (.cells #[.slice Ak ks.length ck] 24)) := (Below.refl _ _).alloc (Nat.le_refl _) _
  have P0 := Troupe.hid (Blk.new w 24 [.slice Ak ks.length ck])
  have S0 := Troupe.hid (hs.later F0)
  have L0 := Troupe.hid (hl.below F0)
  have AL := Troupe.hid (alive_any (w.alloc (.cells #[.slice Ak ks.length ck] 24)))
  have HO := Troupe.hid hle
  have HL0 := Troupe.hid hl
  have B0 := Troupe.hid F0
  clear hs hl F0 hle
  go_enter Try.func5, Try.ntmps5
  go_wp2_with fail
  generalize w.alloc (.cells #[.slice Ak ks.length ck] 24) = w0 at *
  refine AL.out.mono ?_
  rintro e w1 ⟨rfl, hb⟩
  have P1 := Troupe.hid (P0.out.below hb P0.out.lt)
  have B1 := Troupe.hid (B0.out.trans (hb.mono B0.out.size))
  have S1 := Troupe.hid (S0.out.later hb)
  have L1 := Troupe.hid (L0.out.below (hb.mono B0.out.size))
  clear hb P0 B0 S0 L0 AL
  by_cases h3 : 300 < evs.length
  · go_wp2_with fail
    go_ret
    exact ⟨rfl, B1.out⟩
  have h3' : evs.length ≤ 300 := by omega
  clear h3
  obtain ⟨q, t, hq, ht, hon⟩ := once_law ks evs
  have HON := Troupe.hid hon
  have e1 := P1.out.cell
  go_wp2_with fail
  refine (S1.out.chk (L1.out.mono B1.out.size) (by omega) HO.out hq).mono ?_
  rintro e w2 ⟨rfl, hb⟩
  have B2 := Troupe.hid (B1.out.trans (hb.mono B1.out.size))
  have L2 := Troupe.hid (L1.out.below (hb.mono B1.out.size))
  clear hb P1 B1 S1 L1 e1 hq hon HO
  dsimp only
  go_wp2_with fail
  go_loopw [7] (fun v7 wr => ∃ i : Nat, v7 = .int .i64 i ∧ i ≤ t ∧ Below w.heap.size w wr) (fun v7 _ => t - (intOf v7).toNat)
  case atStart => exact ⟨0, rfl, Nat.zero_le _, B2.out⟩
  case round =>
    obtain ⟨i, rfl, hi, hb⟩ := hrel
    obtain ⟨wa, rfl⟩ : ∃ wa : World, wa = wr := ⟨_, rfl⟩
    have BA := Troupe.hid hb
    clear hb
    by_cases hit : i < t
    · have hil : i < evs.length := by omega
      obtain ⟨y, hy⟩ : ∃ y, evs[i]? = some y := ⟨_, List.getElem?_eq_getElem hil⟩
      have HY := Troupe.hid hy
      clear hy
      go_wp2_with fail
      go_loopw [8] (fun v8 wr => ∃ j : Nat, v8 = .int .i64 j ∧ j ≤ i ∧ Below w.heap.size w wr) (fun v8 _ => i - (intOf v8).toNat)
      case atStart => exact ⟨0, rfl, Nat.zero_le _, BA.out⟩
      case round =>
        obtain ⟨j, rfl, hj, hb⟩ := hrel
        obtain ⟨wd, rfl⟩ : ∃ wd : World, wd = wr := ⟨_, rfl⟩
        have BD := Troupe.hid hb
        clear hb
        by_cases hji : j < i
        · have hjl : j < evs.length := by omega
          obtain ⟨x, hx⟩ : ∃ x, evs[j]? = some x := ⟨_, List.getElem?_eq_getElem hjl⟩
          have LD := Troupe.hid (HL0.out.below BD.out)
          obtain ⟨b, o, rfl, hbB, hcx⟩ := cells_at (sz := 9) (fun _ => rfl) (by decide) LD.out hx
          obtain ⟨b', o', hbo, -, hcy⟩ := cells_at (sz := 9) (fun _ => rfl) (by decide) LD.out HY.out
          cases hbo
          obtain ⟨xk, xa, xi, xs, xd, xn, xv, xw, xt⟩ := x
          obtain ⟨yk, ya, yi, ys, yd, yn, yv, yw, yt⟩ := y
          have tw := HON.out i j _ _ hji hit hx HY.out
          unfold twiceV endsV at tw
          dsimp only at tw
          have TW := Troupe.hid tw
          have hzd := BD.out.size
          clear hx tw
          let S0 : World → Prop := fun w' => Below wd.heap.size wd w'
          have hne : Nonempty (SW S0) := ⟨⟨wd, Below.refl _ _⟩⟩
          have x0 : ∀ x : SW S0, x.w.cell? ⟨b, o + j * 9, none⟩ = some (.int .i64 xk) := fun x => (x.h.cell (p := ⟨b, o + j * 9, none⟩) (by dsimp only; omega)).trans (hcx 0 (by decide) _ rfl)
          have x1 : ∀ x : SW S0, x.w.cell? ⟨b, o + j * 9 + 1, none⟩ = some (.int .i64 xa) := fun x => (x.h.cell (p := ⟨b, o + j * 9 + 1, none⟩) (by dsimp only; omega)).trans (hcx 1 (by decide) _ rfl)
          have x2 : ∀ x : SW S0, x.w.cell? ⟨b, o + j * 9 + 2, none⟩ = some (.int .u64 xi) := fun x => (x.h.cell (p := ⟨b, o + j * 9 + 2, none⟩) (by dsimp only; omega)).trans (hcx 2 (by decide) _ rfl)
          have x3 : ∀ x : SW S0, x.w.cell? ⟨b, o + j * 9 + 3, none⟩ = some (.int .i64 xs) := fun x => (x.h.cell (p := ⟨b, o + j * 9 + 3, none⟩) (by dsimp only; omega)).trans (hcx 3 (by decide) _ rfl)
          have x4 : ∀ x : SW S0, x.w.cell? ⟨b, o + j * 9 + 4, none⟩ = some (.int .i64 xd) := fun x => (x.h.cell (p := ⟨b, o + j * 9 + 4, none⟩) (by dsimp only; omega)).trans (hcx 4 (by decide) _ rfl)
          have x5 : ∀ x : SW S0, x.w.cell? ⟨b, o + j * 9 + 5, none⟩ = some (.string xn) := fun x => (x.h.cell (p := ⟨b, o + j * 9 + 5, none⟩) (by dsimp only; omega)).trans (hcx 5 (by decide) _ rfl)
          have x6 : ∀ x : SW S0, x.w.cell? ⟨b, o + j * 9 + 6, none⟩ = some (.int .i64 xv) := fun x => (x.h.cell (p := ⟨b, o + j * 9 + 6, none⟩) (by dsimp only; omega)).trans (hcx 6 (by decide) _ rfl)
          have x7 : ∀ x : SW S0, x.w.cell? ⟨b, o + j * 9 + 7, none⟩ = some (.int .i64 xw) := fun x => (x.h.cell (p := ⟨b, o + j * 9 + 7, none⟩) (by dsimp only; omega)).trans (hcx 7 (by decide) _ rfl)
          have x8 : ∀ x : SW S0, x.w.cell? ⟨b, o + j * 9 + 8, none⟩ = some (.bool xt) := fun x => (x.h.cell (p := ⟨b, o + j * 9 + 8, none⟩) (by dsimp only; omega)).trans (hcx 8 (by decide) _ rfl)
          have y0 : ∀ x : SW S0, x.w.cell? ⟨b, o + i * 9, none⟩ = some (.int .i64 yk) := fun x => (x.h.cell (p := ⟨b, o + i * 9, none⟩) (by dsimp only; omega)).trans (hcy 0 (by decide) _ rfl)
          have y1 : ∀ x : SW S0, x.w.cell? ⟨b, o + i * 9 + 1, none⟩ = some (.int .i64 ya) := fun x => (x.h.cell (p := ⟨b, o + i * 9 + 1, none⟩) (by dsimp only; omega)).trans (hcy 1 (by decide) _ rfl)
          have y2 : ∀ x : SW S0, x.w.cell? ⟨b, o + i * 9 + 2, none⟩ = some (.int .u64 yi) := fun x => (x.h.cell (p := ⟨b, o + i * 9 + 2, none⟩) (by dsimp only; omega)).trans (hcy 2 (by decide) _ rfl)
          have y3 : ∀ x : SW S0, x.w.cell? ⟨b, o + i * 9 + 3, none⟩ = some (.int .i64 ys) := fun x => (x.h.cell (p := ⟨b, o + i * 9 + 3, none⟩) (by dsimp only; omega)).trans (hcy 3 (by decide) _ rfl)
          have y4 : ∀ x : SW S0, x.w.cell? ⟨b, o + i * 9 + 4, none⟩ = some (.int .i64 yd) := fun x => (x.h.cell (p := ⟨b, o + i * 9 + 4, none⟩) (by dsimp only; omega)).trans (hcy 4 (by decide) _ rfl)
          have y5 : ∀ x : SW S0, x.w.cell? ⟨b, o + i * 9 + 5, none⟩ = some (.string yn) := fun x => (x.h.cell (p := ⟨b, o + i * 9 + 5, none⟩) (by dsimp only; omega)).trans (hcy 5 (by decide) _ rfl)
          have y6 : ∀ x : SW S0, x.w.cell? ⟨b, o + i * 9 + 6, none⟩ = some (.int .i64 yv) := fun x => (x.h.cell (p := ⟨b, o + i * 9 + 6, none⟩) (by dsimp only; omega)).trans (hcy 6 (by decide) _ rfl)
          have y7 : ∀ x : SW S0, x.w.cell? ⟨b, o + i * 9 + 7, none⟩ = some (.int .i64 yw) := fun x => (x.h.cell (p := ⟨b, o + i * 9 + 7, none⟩) (by dsimp only; omega)).trans (hcy 7 (by decide) _ rfl)
          have y8 : ∀ x : SW S0, x.w.cell? ⟨b, o + i * 9 + 8, none⟩ = some (.bool yt) := fun x => (x.h.cell (p := ⟨b, o + i * 9 + 8, none⟩) (by dsimp only; omega)).trans (hcy 8 (by decide) _ rfl)
          clear hcx hcy LD
          go_wp2_with fail
          refine region_plan (S := Cls S0) (.read 0 (.read 1 (.read 2 (.read 3 (.read 4 (.read 5 (.read 6 (.read 7 (.two 8 (.one 9 (.one 10 .tail)) 9 (.one 8 (.one 10 .tail))))))))))) 11 (by kernel_rfl) (by kernel_rfl) (fun _ _ d _ _ h => by cases d <;> exact h) ?_
          intro w6 hh o1' o2' o3'
          have F6 : Below wd.heap.size wd w6 := (Frm.of_heap (S := fun _ => False) hh o1' o2' o3').below (Nat.le_refl _) (fun _ h => h.elim)
          clear hh o1' o2' o3'
          refine ⟨Cls.of F6, ?_⟩
          repeat (refine wpPlan_read rfl (fun K hK => ?_); go_simp; refine hK _ ?_; clear hK K)
          clear x0 x1 x2 x3 x4 x5 x6 x7 x8 y0 y1 y2 y3 y4 y5 y6 y7 y8 hne
          have HG2 := Troupe.hid F6.size
          have F9 : Below wd.heap.size wd ((w6.alloc (.cells #[.int .i64 0, .int .i64 0, .int .u64 0, .int .i64 0, .int .i64 0, .string ⟨#[]⟩, .int .i64 0, .int .i64 0, .bool false] 32)).alloc (.cells #[.int .i64 0, .int .i64 0, .int .u64 0, .int .i64 0, .int .i64 0, .string ⟨#[]⟩, .int .i64 0, .int .i64 0, .bool false] 32)) := (F6.alloc F6.size _).alloc (by have := F6.size; simp; omega) _
          have b0 : Blk ((w6.alloc (.cells #[.int .i64 0, .int .i64 0, .int .u64 0, .int .i64 0, .int .i64 0, .string ⟨#[]⟩, .int .i64 0, .int .i64 0, .bool false] 32)).alloc (.cells #[.int .i64 0, .int .i64 0, .int .u64 0, .int .i64 0, .int .i64 0, .string ⟨#[]⟩, .int .i64 0, .int .i64 0, .bool false] 32)) w6.heap.size 32 (flatV [evZ0]) := (Blk.new w6 32 (flatV [evZ0])).alloc _
          have b1' : Blk ((w6.alloc (.cells #[.int .i64 0, .int .i64 0, .int .u64 0, .int .i64 0, .int .i64 0, .string ⟨#[]⟩, .int .i64 0, .int .i64 0, .bool false] 32)).alloc (.cells #[.int .i64 0, .int .i64 0, .int .u64 0, .int .i64 0, .int .i64 0, .string ⟨#[]⟩, .int .i64 0, .int .i64 0, .bool false] 32)) (w6.heap.size + 1) 32 (flatV [evZ0]) := by have := Blk.new (w6.alloc (.cells #[.int .i64 0, .int .i64 0, .int .u64 0, .int .i64 0, .int .i64 0, .string ⟨#[]⟩, .int .i64 0, .int .i64 0, .bool false] 32)) 32 (flatV [evZ0]); rw [show (w6.alloc (.cells #[.int .i64 0, .int .i64 0, .int .u64 0, .int .i64 0, .int .i64 0, .string ⟨#[]⟩, .int .i64 0, .int .i64 0, .bool false] 32)).heap.size = w6.heap.size + 1 by simp] at this; exact this
          have HF9 := Troupe.hid F9
          have HB0 := Troupe.hid b0
          have HB1 := Troupe.hid b1'
          have HFa := Troupe.hid (F6.alloc F6.size (.cells #[.int .i64 0, .int .i64 0, .int .u64 0, .int .i64 0, .int .i64 0, .string ⟨#[]⟩, .int .i64 0, .int .i64 0, .bool false] 32))
          clear F6 F9 b0 b1'
          refine wpPlan_two rfl rfl ?_ ?_
          go_wp2_with fail
          refine ⟨Cls.of HFa.out, ?_⟩
          refine wpPlan_one rfl ?_
          go_wp2_with fail
          refine ⟨Cls.of HF9.out, ?_⟩
          generalize ((w6.alloc (.cells #[.int .i64 0, .int .i64 0, .int .u64 0, .int .i64 0, .int .i64 0, .string ⟨#[]⟩, .int .i64 0, .int .i64 0, .bool false] 32)).alloc (.cells #[.int .i64 0, .int .i64 0, .int .u64 0, .int .i64 0, .int .i64 0, .string ⟨#[]⟩, .int .i64 0, .int .i64 0, .bool false] 32)) = w7 at *
          have hxy : ¬ w6.heap.size = w6.heap.size + 1 := by omega
          have hgx : wd.heap.size ≤ w6.heap.size := by have := HG2.out; omega
          have hgy : wd.heap.size ≤ w6.heap.size + 1 := by have := HG2.out; omega
          have HBX : Hid (Blk w7 (w6.heap.size) 32 (flatV [evZ0])) := HB0.out
          have HBY : Hid (Blk w7 (w6.heap.size + 1) 32 (flatV [evZ0])) := HB1.out
          clear HFa HB0 HB1 HG2
          generalize w6.heap.size + 1 = gy at *
          generalize w6.heap.size = gx at *
          rotate_left
          go_wp2_with fail
          refine ⟨Cls.of HFa.out, ?_⟩
          refine wpPlan_one rfl ?_
          go_wp2_with fail
          refine ⟨Cls.of HF9.out, ?_⟩
          generalize ((w6.alloc (.cells #[.int .i64 0, .int .i64 0, .int .u64 0, .int .i64 0, .int .i64 0, .string ⟨#[]⟩, .int .i64 0, .int .i64 0, .bool false] 32)).alloc (.cells #[.int .i64 0, .int .i64 0, .int .u64 0, .int .i64 0, .int .i64 0, .string ⟨#[]⟩, .int .i64 0, .int .i64 0, .bool false] 32)) = w7 at *
          have hxy : ¬ w6.heap.size + 1 = w6.heap.size := by omega
          have hgx : wd.heap.size ≤ w6.heap.size + 1 := by have := HG2.out; omega
          have hgy : wd.heap.size ≤ w6.heap.size := by have := HG2.out; omega
          have HBX : Hid (Blk w7 (w6.heap.size + 1) 32 (flatV [evZ0])) := HB1.out
          have HBY : Hid (Blk w7 (w6.heap.size) 32 (flatV [evZ0])) := HB0.out
          clear HFa HB0 HB1 HG2
          generalize w6.heap.size + 1 = gx at *
          generalize w6.heap.size = gy at *
          all_goals
            refine wpPlan_one rfl ?_
            go_wp2_with first
              | (refine wpList_evStore (x := .tmp 9) (y := .tmp 42) (i := 0) (e := ⟨xk, xa, xi, xs, xd, xn, xv, xw, xt⟩) rfl rfl HBX.out (by simp) rfl rfl ?_; intro w8 h1 h2; have BX8 : Hid (Blk w8 gx 32 [.int .i64 xk, .int .i64 xa, .int .u64 xi, .int .i64 xs, .int .i64 xd, .string xn, .int .i64 xv, .int .i64 xw, .bool xt]) := h1; have BY8 := Troupe.hid (HBY.out.frm h2 (fun h => hxy h.symm)); have F8 := Troupe.hid (HF9.out.trans (h2.below HF9.out.size (fun k hk => by omega))); clear h1 h2)
              | fail
            refine ⟨Cls.of F8.out, ?_⟩
            refine wpPlan_tail ?_
            simp only [List.drop_succ_cons, List.drop_zero]
            go_upto_region 13 with first
              | (refine wpList_evStore (x := .tmp 10) (y := .tmp 46) (i := 0) (e := ⟨yk, ya, yi, ys, yd, yn, yv, yw, yt⟩) rfl rfl BY8.out (by simp) rfl rfl ?_; intro w9 h1 h2; have BY9 : Hid (Blk w9 gy 32 [.int .i64 yk, .int .i64 ya, .int .u64 yi, .int .i64 ys, .int .i64 yd, .string yn, .int .i64 yv, .int .i64 yw, .bool yt]) := h1; have BX9 := Troupe.hid (BX8.out.frm h2 hxy); have F9 := Troupe.hid (F8.out.trans (h2.below F8.out.size (fun k hk => by omega))); clear h1 h2)
              | fail
            have B9 : Hid (Below w.heap.size w w9) := BD.out.trans (F9.out.mono hzd)
            have ex := BX9.out.cell
            have ey := BY9.out.cell
            obtain ⟨w12, rfl⟩ : ∃ w12 : World, w12 = w9 := ⟨_, rfl⟩
            dsimp only [Act.put]
            go_cut [11] from 47 to 107 (fun v11 w' => v11 = .bool ((xk == 3 || xk == 6) && (yk == 3 || yk == 6)) ∧ w' = w12)
            case first =>
              cases x3 : (xk == 3) with
              | true =>
                cases y3 : (yk == 3) with
                | true =>
                  go_wp2_with fail
                  go_meet
                  case rel => exact ⟨by simp [x3, y3], rfl⟩
                | false =>
                  cases y6 : (yk == 6) with
                  | true =>
                    go_wp2_with fail
                    go_meet
                    case rel => exact ⟨by simp [x3, y3, y6], rfl⟩
                  | false =>
                    go_wp2_with fail
                    go_meet
                    case rel => exact ⟨by simp [x3, y3, y6], rfl⟩
              | false =>
                cases x6 : (xk == 6) with
                | true =>
                  cases y3 : (yk == 3) with
                  | true =>
                    go_wp2_with fail
                    go_meet
                    case rel => exact ⟨by simp [x3, x6, y3], rfl⟩
                  | false =>
                    cases y6 : (yk == 6) with
                    | true =>
                      go_wp2_with fail
                      go_meet
                      case rel => exact ⟨by simp [x3, x6, y3, y6], rfl⟩
                    | false =>
                      go_wp2_with fail
                      go_meet
                      case rel => exact ⟨by simp [x3, x6, y3, y6], rfl⟩
                | false =>
                  go_wp2_with fail
                  go_meet
                  case rel => exact ⟨by simp [x3, x6], rfl⟩
            case rest =>
            obtain ⟨rfl, hwc⟩ := hcut
            obtain ⟨w13, rfl⟩ : ∃ w13 : World, w13 = wc := ⟨_, rfl⟩
            obtain rfl := hwc.symm
            obtain ⟨en, hen⟩ : ∃ en, ((xk == 3 || xk == 6) && (yk == 3 || yk == 6)) = en := ⟨_, rfl⟩
            rw [hen] at TW ⊢
            clear hen
            cases hi : (xi == yi) with
            | false =>
              cases ha : (xa == ya) with
              | false =>
                go_wp2_with fail
                go_roundw
                case rel => exact ⟨j + 1, by go_num, by omega, B9.out⟩
                case measure => simp [intOf]; omega
              | true =>
              rw [ha] at TW
              simp only [Bool.true_and] at TW
              cases h14 : (xk == 14) with
              | true =>
                have q7 : (xk == 7) = false := by rw [eq_of_beq h14]; rfl
                have g14 : (yk == 14) = false := by
                  cases hy : (yk == 14) with
                  | false => rfl
                  | true => rw [h14, hy] at TW; exact absurd TW.out (by simp)
                go_wp2_with fail
                go_roundw
                case rel => exact ⟨j + 1, by go_num, by omega, B9.out⟩
                case measure => simp [intOf]; omega
              | false =>
                cases h7 : (xk == 7) with
                | true =>
                  have g7 : (yk == 7) = false := by
                    cases hy : (yk == 7) with
                    | false => rfl
                    | true => rw [h14, h7, hy] at TW; exact absurd TW.out (by simp)
                  go_wp2_with fail
                  go_roundw
                  case rel => exact ⟨j + 1, by go_num, by omega, B9.out⟩
                  case measure => simp [intOf]; omega
                | false =>
                  go_wp2_with fail
                  go_roundw
                  case rel => exact ⟨j + 1, by go_num, by omega, B9.out⟩
                  case measure => simp [intOf]; omega
            | true =>
              rw [hi] at TW
              simp only [Bool.true_and] at TW
              cases en with
              | true => exact absurd TW.out (by simp)
              | false =>
                cases hk2 : (xk == 2) with
                | false =>
                  cases ha : (xa == ya) with
                  | false =>
                    go_wp2_with fail
                    go_roundw
                    case rel => exact ⟨j + 1, by go_num, by omega, B9.out⟩
                    case measure => simp [intOf]; omega
                  | true =>
                  rw [ha] at TW
                  simp only [Bool.true_and] at TW
                  cases h14 : (xk == 14) with
                  | true =>
                    have q7 : (xk == 7) = false := by rw [eq_of_beq h14]; rfl
                    have g14 : (yk == 14) = false := by
                      cases hy : (yk == 14) with
                      | false => rfl
                      | true => rw [h14, hy] at TW; exact absurd TW.out (by simp)
                    go_wp2_with fail
                    go_roundw
                    case rel => exact ⟨j + 1, by go_num, by omega, B9.out⟩
                    case measure => simp [intOf]; omega
                  | false =>
                    cases h7 : (xk == 7) with
                    | true =>
                      have g7 : (yk == 7) = false := by
                        cases hy : (yk == 7) with
                        | false => rfl
                        | true => rw [h14, h7, hy] at TW; exact absurd TW.out (by simp)
                      go_wp2_with fail
                      go_roundw
                      case rel => exact ⟨j + 1, by go_num, by omega, B9.out⟩
                      case measure => simp [intOf]; omega
                    | false =>
                      go_wp2_with fail
                      go_roundw
                      case rel => exact ⟨j + 1, by go_num, by omega, B9.out⟩
                      case measure => simp [intOf]; omega
                | true =>
                  have g2 : (yk == 2) = false := by
                    cases hy : (yk == 2) with
                    | false => rfl
                    | true => rw [hk2, hy] at TW; exact absurd TW.out (by simp)
                  cases ha : (xa == ya) with
                  | false =>
                    go_wp2_with fail
                    go_roundw
                    case rel => exact ⟨j + 1, by go_num, by omega, B9.out⟩
                    case measure => simp [intOf]; omega
                  | true =>
                  rw [ha] at TW
                  simp only [Bool.true_and] at TW
                  have q14 : (xk == 14) = false := by rw [eq_of_beq hk2]; rfl
                  have q7 : (xk == 7) = false := by rw [eq_of_beq hk2]; rfl
                  go_wp2_with fail
                  go_roundw
                  case rel => exact ⟨j + 1, by go_num, by omega, B9.out⟩
                  case measure => simp [intOf]; omega
        · obtain rfl : j = i := by omega
          go_wp2_with fail
          go_roundw
          case rel => exact ⟨j + 1, by go_num, by omega, BD.out⟩
          case measure => simp [intOf]; omega
    · obtain rfl : i = t := by omega
      go_wp2_with fail
      go_ret
      exact ⟨rfl, BA.out⟩
end Go.Proofs.Ytkjjhndccelbcaa
