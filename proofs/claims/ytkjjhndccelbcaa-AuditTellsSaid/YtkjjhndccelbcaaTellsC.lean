/- AuditTells: who arrived, as the document tells it: the walk. -/
import Derived.Test.YtkjjhndccelbcaaTellsB
import Derived.Test.YtkjjhndccelbcaaEvents
namespace Go.Proofs.Ytkjjhndccelbcaa
open Go.RowKit Go.Maps Go.Troupe

def evZ : Ev := ⟨0, 0, 0, 0, 0, ⟨#[]⟩, 0, 0, false⟩
theorem sentIn_drop {l : List Ev} {k : Nat} {e : Ev} (he : l[k]? = some e) (id : Int) : sentIn (l.drop k) id = if (e.kd == 2 && e.id == id) = true then some e else sentIn (l.drop (k + 1)) id := by
  unfold sentIn
  rw [List.drop_eq_getElem_cons (List.getElem?_eq_some_iff.1 he).1, (List.getElem?_eq_some_iff.1 he).2, List.find?_cons]
  by_cases h : (e.kd == 2 && e.id == id) = true
  · simp [h]
  · simp [h]
theorem sentIn_kd {l : List Ev} {id : Int} {s : Ev} (h : sentIn l id = some s) : (s.kd == 2) = true := by
  have := List.find?_some h
  simp only [Bool.and_eq_true] at this
  exact this.1
theorem any_sym (l : List Int) (v : Int) : l.any (fun x => x == v) = l.any (eqV v) := by
  congr 1
  funext x
  unfold eqV
  by_cases h : x = v
  · subst h; simp
  · rw [beq_eq_false_iff_ne.2 h, beq_eq_false_iff_ne.2 (fun e => h e.symm)]
theorem any_take {l : List Int} {k : Nat} {x : Int} (hx : l[k]? = some x) (p : Int → Bool) : (l.take (k + 1)).any p = ((l.take k).any p || p x) := by
  rw [List.take_add_one, hx, List.any_append]
  simp
set_option maxRecDepth 100000 in
set_option maxHeartbeats 8000000 in
theorem rarrived_any {Al : Option Addr} {n cl : Nat} {evs : List Ev} (src dst : Int) (w : World) (hn : evs.length = n) (hl : Cells w w.heap.size Al (flatV evs)) (hel : n ≤ 300) :
    Calls Try.prog 11 #[.slice Al n cl, .int .i64 src, .int .i64 dst] w fun en w' => ∃ v, en = .returned v ∧ w'.ownsRow w.heap.size 30 1 v (arrivedV evs evs src dst).length (ids (arrivedV evs evs src dst)) ∧ Below w.heap.size w w' := by
  have HL := Troupe.hid hl
  have HN := Troupe.hid hn
  clear hl hn
  go_enter Try.func11, Try.ntmps11
  go_wp2_with fail
  go_loopw [7, 8] (fun v7 v8 wr => ∃ i : Nat, i ≤ n ∧ v8 = .int .i64 i ∧ wr.ownsRow w.heap.size 30 1 v7 (arrivedV evs (evs.take i) src dst).length (ids (arrivedV evs (evs.take i) src dst)) ∧ Below w.heap.size w wr) (fun _ v8 _ => n - (intOf v8).toNat)
  case atStart => exact ⟨0, Nat.zero_le _, rfl, World.ownsRow_nil _ _ _ _, Below.refl _ _⟩
  case round =>
    obtain ⟨i, hi, rfl, ho, hb⟩ := hrel
    obtain ⟨wa, rfl⟩ : ∃ wa : World, wa = wr := ⟨_, rfl⟩
    have HB := Troupe.hid hb
    have HO := Troupe.hid ho
    clear hb ho
    by_cases hlt : i < n
    rotate_left
    · obtain rfl : i = n := by omega
      have WE : Hid (evs.take i = evs) := List.take_of_length_le (by have := HN.out; omega)
      rw [WE.out] at HO
      go_wp2_with fail
      go_ret
      exact ⟨_, rfl, HO.out, HB.out⟩
    obtain ⟨e, hx⟩ : ∃ e, evs[i]? = some e := ⟨_, List.getElem?_eq_getElem (by have := HN.out; omega)⟩
    have HX := Troupe.hid hx
    have AT := Troupe.hid (arrived_take (all := evs) hx src dst)
    have AL : Hid ((arrivedV evs (evs.take i) src dst).length ≤ 300) := by
      have h1 := arrived_le evs (evs.take i) src dst
      rw [List.length_take] at h1
      unfold Hid
      omega
    have LA := Troupe.hid (HL.out.below HB.out)
    obtain ⟨b, off, rfl, hbB, h1⟩ := cells_at (sz := 9) (fun _ => rfl) (by decide) LA.out hx
    have d0 : wa.cell? ⟨b, off + i * 9, none⟩ = some (.int .i64 e.kd) := h1 0 (by decide) _ rfl
    clear h1 hx
    obtain ⟨A0, c0, rfl, -⟩ := own_form HO.out
    obtain ⟨out, hout⟩ : ∃ out, arrivedV evs (evs.take i) src dst = out := ⟨_, rfl⟩
    rw [hout] at AT AL HO
    rw [hout]
    clear hout
    have WF : Hid (∀ f b, fitV evs src dst e = f → out.any (eqV e.id) = b → arrivedV evs (evs.take (i + 1)) src dst = if (f && !b) = true then out ++ [e.id] else out) := by intro f b hf hb; rw [AT.out]; unfold stepV2; rw [hf, hb]
    have FV : Hid (∀ k3 k5, (e.kd == 3) = k3 → (e.kd == 5) = k5 → fitV evs src dst e = ((k3 || k5) && (match sentIn evs e.id with | some m => m.src == src && m.dst == dst && !m.timed | none => false))) := by intro k3 k5 h3 h5; unfold fitV; rw [h3, h5]; rfl
    have hhb := HB.out.size
    obtain ⟨k3, hk3⟩ : ∃ b, (e.kd == 3) = b := ⟨_, rfl⟩
    have h3 : (e.kd != 3) = !k3 := by rw [← hk3]; rfl
    obtain ⟨k5, hk5⟩ : ∃ b, (e.kd == 5) = b := ⟨_, rfl⟩
    have h5 : (e.kd != 5) = !k5 := by rw [← hk5]; rfl
    by_cases hno : k3 = false ∧ k5 = false
    · obtain ⟨rfl, rfl⟩ := hno
      simp only [Bool.not_false] at h5 h3
      have WE : Hid (arrivedV evs (evs.take (i + 1)) src dst = out) := by unfold Hid; rw [WF.out _ _ (FV.out _ _ hk3 hk5) rfl]; rfl
      go_wp2_with fail
      go_roundw
      case rel => exact ⟨i + 1, by omega, by go_num, by rw [WE.out]; exact HO.out, HB.out⟩
      case measure => simp [intOf]; omega
    go_upto_region 5 with (fail)
    go_cut [32] from 19 to 32 (fun v32 w' => v32 = .bool false ∧ (e.kd == 3 || e.kd == 5) = true ∧ w' = wa)
    case first =>
      cases k3 with
      | true =>
        simp only [Bool.not_true] at h3
        go_wp2_with fail
        go_meet
        case rel => exact ⟨rfl, by rw [hk3]; rfl, rfl⟩
      | false =>
        cases k5 with
        | true =>
          simp only [Bool.not_true] at h5
          simp only [Bool.not_false] at h3
          go_wp2_with fail
          go_meet
          case rel => exact ⟨rfl, by rw [hk5]; simp, rfl⟩
        | false => exact absurd ⟨rfl, rfl⟩ hno
    case rest =>
    obtain ⟨rfl, hk35, hwc⟩ := hcut
    obtain ⟨wb, rfl⟩ : ∃ wb : World, wb = wc := ⟨_, rfl⟩
    obtain rfl := hwc.symm
    have K35 := Troupe.hid hk35
    clear hk35 hno h3 h5 hk3 hk5
    have F0 : Hid (Below wa.heap.size wa (wa.alloc (.cells #[.int .i64 0, .int .i64 0, .int .u64 0, .int .i64 0, .int .i64 0, .string ⟨#[]⟩, .int .i64 0, .int .i64 0, .bool false] 32))) := (Below.refl _ _).alloc (Nat.le_refl _) _
    have G0 : Hid (Blk (wa.alloc (.cells #[.int .i64 0, .int .i64 0, .int .u64 0, .int .i64 0, .int .i64 0, .string ⟨#[]⟩, .int .i64 0, .int .i64 0, .bool false] 32)) wa.heap.size 32 (flatV [evZ])) := Blk.new wa 32 (flatV [evZ])
    have hn1 : IntKind.i64.wrap ((n : Int) - 1) = (n : Int) - 1 := by rw [IntKind.wrap_i64]; omega
    go_wp2_with fail
    generalize wa.alloc (.cells #[.int .i64 0, .int .i64 0, .int .u64 0, .int .i64 0, .int .i64 0, .string ⟨#[]⟩, .int .i64 0, .int .i64 0, .bool false] 32) = wg at *
    go_loopw [10] (fun v10 wr => ∃ (j : Nat) (z : Int), j ≤ n ∧ z = (j : Int) - 1 ∧ v10 = .int .i64 z ∧ Blk wr wa.heap.size 32 (flatV [(sentIn (evs.drop j) e.id).getD evZ]) ∧ Below wa.heap.size wa wr) (fun v10 _ => ((intOf v10) + 1).toNat)
    case atStart => exact ⟨n, _, Nat.le_refl _, rfl, rfl, by rw [List.drop_of_length_le (by have := HN.out; omega)]; exact G0.out, F0.out⟩
    case round =>
      obtain ⟨j, z, hj, hz, rfl, hm, hb2⟩ := hrel
      obtain ⟨wd, rfl⟩ : ∃ wd : World, wd = wr := ⟨_, rfl⟩
      have BM := Troupe.hid hm
      have HB2 := Troupe.hid hb2
      clear hm hb2
      by_cases hz0 : 0 ≤ z
      · obtain ⟨j', rfl⟩ : ∃ j', j = j' + 1 := ⟨j - 1, by omega⟩
        obtain rfl : z = (j' : Int) := by omega
        clear hz
        obtain ⟨x, hx2⟩ : ∃ x, evs[j']? = some x := ⟨_, List.getElem?_eq_getElem (by have := HN.out; omega)⟩
        have SD := Troupe.hid (sentIn_drop hx2 e.id)
        obtain ⟨b2, off2, hbo, -, h1⟩ := cells_at (sz := 9) (fun _ => rfl) (by decide) (HL.out.below (HB.out.trans (HB2.out.mono hhb))) hx2
        cases hbo
        obtain ⟨b3, off3, hbo, -, h3⟩ := cells_at (sz := 9) (fun _ => rfl) (by decide) (HL.out.below (HB.out.trans (HB2.out.mono hhb))) HX.out
        cases hbo
        have d0 : wd.cell? ⟨b, off + j' * 9, none⟩ = some (.int .i64 x.kd) := h1 0 (by decide) _ rfl
        have d1 : wd.cell? ⟨b, off + j' * 9 + 1, none⟩ = some (.int .i64 x.actor) := h1 1 (by decide) _ rfl
        have d2 : wd.cell? ⟨b, off + j' * 9 + 2, none⟩ = some (.int .u64 x.id) := h1 2 (by decide) _ rfl
        have d3 : wd.cell? ⟨b, off + j' * 9 + 3, none⟩ = some (.int .i64 x.src) := h1 3 (by decide) _ rfl
        have d4 : wd.cell? ⟨b, off + j' * 9 + 4, none⟩ = some (.int .i64 x.dst) := h1 4 (by decide) _ rfl
        have d5 : wd.cell? ⟨b, off + j' * 9 + 5, none⟩ = some (.string x.name) := h1 5 (by decide) _ rfl
        have d6 : wd.cell? ⟨b, off + j' * 9 + 6, none⟩ = some (.int .i64 x.n) := h1 6 (by decide) _ rfl
        have d7 : wd.cell? ⟨b, off + j' * 9 + 7, none⟩ = some (.int .i64 x.why) := h1 7 (by decide) _ rfl
        have d8 : wd.cell? ⟨b, off + j' * 9 + 8, none⟩ = some (.bool x.timed) := h1 8 (by decide) _ rfl
        have g2 : wd.cell? ⟨b, off + i * 9 + 2, none⟩ = some (.int .u64 e.id) := h3 2 (by decide) _ rfl
        have hjm : IntKind.i64.wrap ((j' : Int) - 1) = (j' : Int) - 1 := by rw [IntKind.wrap_i64]; omega
        have hjl : j' < n := by omega
        clear h1 h3 hx2
        have BD : Hid (∀ m, Blk (wd.drewN m) wa.heap.size 32 (flatV [(sentIn (evs.drop (j' + 1)) e.id).getD evZ])) := fun m => BM.out.frm ((Frm.refl (fun _ => False) wd).drewN _) (fun h => h)
        have FD : Hid (∀ m, Below wa.heap.size wa (wd.drewN m)) := fun m => HB2.out.trans (((Frm.refl (fun _ => False) wd).drewN _).below HB2.out.size (fun _ h => h.elim))
        cases hy1 : (x.kd == 2) with
        | false =>
          have SE : Hid (sentIn (evs.drop j') e.id = sentIn (evs.drop (j' + 1)) e.id) := by unfold Hid; rw [SD.out, hy1]; rfl
          go_wp2_with fail
          go_quiet (fail)
          go_wp2_with fail
          go_roundw
          case rel => exact ⟨j', _, by omega, rfl, rfl, by rw [SE.out]; exact BD.out _, FD.out _⟩
          case measure => simp [intOf]
        | true =>
        cases hy2 : (x.id == e.id) with
        | false =>
          have SE : Hid (sentIn (evs.drop j') e.id = sentIn (evs.drop (j' + 1)) e.id) := by unfold Hid; rw [SD.out, hy1, hy2]; rfl
          go_wp2_with fail
          go_quiet (fail)
          go_wp2_with fail
          go_roundw
          case rel => exact ⟨j', _, by omega, rfl, rfl, by rw [SE.out]; exact BD.out _, FD.out _⟩
          case measure => simp [intOf]
        | true =>
          have SE : Hid (sentIn (evs.drop j') e.id = some x) := by unfold Hid; rw [SD.out, hy1, hy2]; rfl
          go_wp2_with fail
          go_quiet (fail)
          go_wp2_with first
            | (refine wpList_evStore (x := .tmp 9) (y := .tmp 63) (i := 0) (e := x) rfl rfl (BD.out _) (by simp) rfl rfl ?_; intro w8 h1 h2; have B8 : Hid (Blk w8 wa.heap.size 32 (flatV [x])) := h1; have F8 := Troupe.hid ((FD.out _).trans (h2.below (FD.out _).size (fun k hk => by omega))); clear h1 h2)
            | fail
          go_roundw
          case rel => exact ⟨j', _, by omega, rfl, rfl, by rw [SE.out]; exact B8.out, F8.out⟩
          case measure => simp [intOf]
      · obtain rfl : j = 0 := by omega
        have hzn : z < 0 := by omega
        rw [List.drop_zero] at BM
        have O2 := Troupe.hid (own_below HO.out HB2.out)
        have B2 := Troupe.hid (HB.out.trans (HB2.out.mono hhb))
        clear hz
        cases hs : sentIn evs e.id with
        | none =>
          have WE : Hid (arrivedV evs (evs.take (i + 1)) src dst = out) := by unfold Hid; rw [WF.out _ _ (FV.out _ _ rfl rfl) rfl, hs]; simp
          have BZ : Blk wd wa.heap.size 32 [.int .i64 0, .int .i64 0, .int .u64 0, .int .i64 0, .int .i64 0, .string ⟨#[]⟩, .int .i64 0, .int .i64 0, .bool false] := by have := BM.out; rw [hs] at this; exact this
          have ez := BZ.cell
          go_wp2_with fail
          go_roundw
          case rel => exact ⟨i + 1, by omega, by go_num, by rw [WE.out]; exact O2.out, B2.out⟩
          case measure => simp [intOf]; omega
        | some s =>
          have BZ : Blk wd wa.heap.size 32 [.int .i64 s.kd, .int .i64 s.actor, .int .u64 s.id, .int .i64 s.src, .int .i64 s.dst, .string s.name, .int .i64 s.n, .int .i64 s.why, .bool s.timed] := by have := BM.out; rw [hs] at this; exact this
          have ez := BZ.cell
          have hk2 : (s.kd != 2) = false := by have := sentIn_kd hs; unfold bne; rw [this]; rfl
          have HSS := Troupe.hid hs
          clear hs BZ
          have FW : Hid (∀ c1 c2 c3 : Bool, (s.src == src) = c1 → (s.dst == dst) = c2 → s.timed = c3 → fitV evs src dst e = (c1 && c2 && !c3)) := by
            intro c1 c2 c3 h1 h2 h3
            rw [FV.out _ _ rfl rfl, K35.out, HSS.out]
            simp only [h1, h2, h3, Bool.true_and]
          obtain ⟨c1, hc1⟩ : ∃ c, (s.src == src) = c := ⟨_, rfl⟩
          have hb1 : (s.src != src) = !c1 := by rw [← hc1]; rfl
          cases c1 with
          | false =>
            have WE : Hid (arrivedV evs (evs.take (i + 1)) src dst = out) := by unfold Hid; rw [WF.out _ _ (FW.out _ _ _ hc1 rfl rfl) rfl]; simp
            simp only [Bool.not_false] at hb1
            go_wp2_with fail
            go_roundw
            case rel => exact ⟨i + 1, by omega, by go_num, by rw [WE.out]; exact O2.out, B2.out⟩
            case measure => simp [intOf]; omega
          | true =>
          obtain ⟨c2, hc2⟩ : ∃ c, (s.dst == dst) = c := ⟨_, rfl⟩
          have hb2 : (s.dst != dst) = !c2 := by rw [← hc2]; rfl
          simp only [Bool.not_true] at hb1
          cases c2 with
          | false =>
            have WE : Hid (arrivedV evs (evs.take (i + 1)) src dst = out) := by unfold Hid; rw [WF.out _ _ (FW.out _ _ _ hc1 hc2 rfl) rfl]; simp
            simp only [Bool.not_false] at hb2
            go_wp2_with fail
            go_roundw
            case rel => exact ⟨i + 1, by omega, by go_num, by rw [WE.out]; exact O2.out, B2.out⟩
            case measure => simp [intOf]; omega
          | true =>
          simp only [Bool.not_true] at hb2
          cases hc3 : s.timed with
          | true =>
            have WE : Hid (arrivedV evs (evs.take (i + 1)) src dst = out) := by unfold Hid; rw [WF.out _ _ (FW.out _ _ _ hc1 hc2 hc3) rfl]; simp
            go_wp2_with fail
            go_roundw
            case rel => exact ⟨i + 1, by omega, by go_num, by rw [WE.out]; exact O2.out, B2.out⟩
            case measure => simp [intOf]; omega
          | false =>
          have WG : Hid (∀ b, out.any (eqV e.id) = b → arrivedV evs (evs.take (i + 1)) src dst = if b = true then out else out ++ [e.id]) := by
            intro b hb
            rw [WF.out _ _ (FW.out _ _ _ hc1 hc2 hc3) hb]
            cases b <;> rfl
          have C2 := Troupe.hid (own_cells O2.out)
          have Z2 : Hid (wa.heap.size ≤ wd.heap.size) := HB2.out.size
          go_wp2_with fail
          clear ez hb1 hb2 hk2 hc3 d0
          go_loopw [11, 12] (fun v11 v12 wr => ∃ k : Nat, k ≤ out.length ∧ v12 = .int .i64 k ∧ v11 = .bool ((out.take k).any fun x => x == e.id) ∧ Below wd.heap.size wd wr) (fun _ v12 _ => out.length - (intOf v12).toNat)
          case atStart => exact ⟨0, Nat.zero_le _, rfl, rfl, Below.refl _ _⟩
          case round =>
            obtain ⟨k, hk, rfl, rfl, hb4⟩ := hrel
            obtain ⟨wf, rfl⟩ : ∃ wf : World, wf = wr := ⟨_, rfl⟩
            have HB4 := Troupe.hid hb4
            clear hb4
            have ALo := AL.out
            obtain ⟨b3, off3, hbo, -, h3⟩ := cells_at (sz := 9) (fun _ => rfl) (by decide) (HL.out.below (B2.out.trans (HB4.out.mono B2.out.size))) HX.out
            cases hbo
            have g2 : wf.cell? ⟨b, off + i * 9 + 2, none⟩ = some (.int .u64 e.id) := h3 2 (by decide) _ rfl
            clear h3
            by_cases hkl : k < out.length
            · obtain ⟨y, hy⟩ : ∃ y, out[k]? = some y := ⟨_, List.getElem?_eq_getElem hkl⟩
              have AK := Troupe.hid (any_take hy (fun x => x == e.id))
              obtain ⟨b5, off5, hA5, -, h5⟩ := cells_at (f := fun n => [Value.int .u64 n]) (sz := 1) (fun _ => rfl) (by decide) (C2.out.below HB4.out) hy
              subst hA5
              have d1 : wf.cell? ⟨b5, off5 + k, none⟩ = some (.int .u64 y) := by have := h5 0 (by decide) _ rfl; rwa [Nat.mul_one, Nat.add_zero] at this
              obtain ⟨p, hp⟩ : ∃ p, (out.take k).any (fun x => x == e.id) = p := ⟨_, rfl⟩
              rw [hp] at AK ⊢
              clear h5 hy hp
              cases p with
              | true =>
                go_wp2_with fail
                go_quiet (fail)
                go_wp2_with fail
                go_roundw
                case rel => exact ⟨k + 1, by omega, by go_num, by rw [AK.out]; rfl, HB4.out.trans (((Frm.refl (fun _ => False) wf).drewN _).below HB4.out.size (fun _ h => h.elim))⟩
                case measure => simp [intOf]; omega
              | false =>
                go_wp2_with fail
                go_quiet (fail)
                go_wp2_with fail
                go_roundw
                case rel => exact ⟨k + 1, by omega, by go_num, by rw [AK.out]; rfl, HB4.out.trans (((Frm.refl (fun _ => False) wf).drewN _).below HB4.out.size (fun _ h => h.elim))⟩
                case measure => simp [intOf]; omega
            · obtain rfl : k = out.length := by omega
              rw [List.take_length, any_sym]
              have O4 := Troupe.hid (own_below O2.out HB4.out)
              have B4 := Troupe.hid (B2.out.trans (HB4.out.mono B2.out.size))
              obtain ⟨p, hp⟩ : ∃ p, out.any (eqV e.id) = p := ⟨_, rfl⟩
              have WG2 := Troupe.hid (WG.out p hp)
              rw [hp]
              clear hp
              cases p with
              | true =>
                have WE : Hid (arrivedV evs (evs.take (i + 1)) src dst = out) := WG2.out
                go_wp2_with fail
                go_roundw
                case rel => exact ⟨i + 1, by omega, by go_num, by rw [WE.out]; exact O4.out, B4.out⟩
                case measure => simp [intOf]; omega
              | false =>
                have WE : Hid (arrivedV evs (evs.take (i + 1)) src dst = out ++ [e.id]) := WG2.out
                have O5 := Troupe.hid (O4.out.alloc (.cells #[.int .u64 e.id] 30))
                have F5 : Hid (Below w.heap.size w (wf.alloc (.cells #[.int .u64 e.id] 30))) := B4.out.alloc B4.out.size _
                have C5 : Hid (Cells (wf.alloc (.cells #[.int .u64 e.id] 30)) (wf.heap.size + 1) (some ⟨wf.heap.size, 0, none⟩) (ids [e.id])) := by
                  have := (Blk.new wf 30 [.int .u64 e.id]).blk_cells
                  unfold Hid
                  simpa [ids] using this
                have Z5 := F5.out.size
                go_wp2_with first
                  | (at_builtin; refine wpList_app rfl (.tmp 104) (.tmp 110) 36 rfl w.heap.size 30 info30 Try.underlying36 rfl (by decide) (.slice A0 out.length c0) out.length (ids out) rfl O5.out _ (some ⟨wf.heap.size, 0, none⟩) 1 1 (ids [e.id]) rfl rfl C5.out (fun h => by cases h) (one_ids _) (by have := AL.out; omega) (by have := AL.out; unfold maxLen; omega) Z5 ?_; intro v6 w6 h'; rw [← ids_app] at h'; have O6 := Troupe.hid h'.own; have F6 := Troupe.hid (F5.out.trans (h'.frm.below Z5 (fun k hk => (O5.out.lt k hk).1))); clear h')
                  | fail
                go_roundw
                case rel => exact ⟨i + 1, by omega, by go_num, by rw [WE.out, List.length_append]; exact O6.out, F6.out⟩
                case measure => simp [intOf]; omega
end Go.Proofs.Ytkjjhndccelbcaa
