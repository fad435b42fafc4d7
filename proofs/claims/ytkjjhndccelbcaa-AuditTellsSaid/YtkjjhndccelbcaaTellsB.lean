/- AuditTells: what was worked on, whether two rows of numbers are the same, and who arrived, as the program tells it: the walks. -/
import Derived.Test.YtkjjhndccelbcaaSmall
namespace Go.Proofs.Ytkjjhndccelbcaa
open Go.RowKit Go.Maps Go.Troupe

theorem info30 : (Try.prog.info? 30).map (fun i => (i.zero, i.size, i.bytes)) = some (some (.int .u64 0), 1, 8) := by kernel_rfl
def ids (l : List Int) : List Value := l.flatMap fun n => [Value.int .u64 n]
theorem ids_length (l : List Int) : (ids l).length = l.length := by
  induction l with
  | nil => rfl
  | cons x l ih =>
    simp [ids] at ih ⊢
    exact ih
theorem ids_app (a b : List Int) : ids (a ++ b) = ids a ++ ids b := by simp [ids]
theorem one_ids (l : List Int) : ∀ u ∈ ids l, u.oneCell' = true := by
  intro u hu
  obtain ⟨x, _, h⟩ := List.mem_flatMap.1 hu
  simp at h
  subst h
  rfl
def workedV (l : List Ev) (actor : Int) : List Int := (l.filter fun e => e.kd == 3 && e.actor == actor).map Ev.id
theorem worked_take {l : List Ev} {k : Nat} {e : Ev} (he : l[k]? = some e) (actor : Int) : workedV (l.take (k + 1)) actor = workedV (l.take k) actor ++ (if (e.kd == 3 && e.actor == actor) = true then [e.id] else []) := by
  unfold workedV
  rw [List.take_add_one, he, List.filter_append, List.map_append]
  by_cases h : (e.kd == 3 && e.actor == actor) = true
  · simp [h]
  · simp [h]
theorem worked_le (l : List Ev) (actor : Int) : (workedV l actor).length ≤ l.length := by
  unfold workedV
  rw [List.length_map]
  exact List.length_filter_le _ _
set_option maxRecDepth 100000 in
set_option maxHeartbeats 4000000 in
theorem worked_any {Al : Option Addr} {n cl : Nat} {evs : List Ev} (actor : Int) (w : World) (hn : evs.length = n) (hl : Cells w w.heap.size Al (flatV evs)) (hel : n ≤ 300) :
    Calls Try.prog 12 #[.slice Al n cl, .int .i64 actor] w fun en w' => ∃ v, en = .returned v ∧ w'.ownsRow w.heap.size 30 1 v (workedV evs actor).length (ids (workedV evs actor)) ∧ Below w.heap.size w w' := by
  have HL := Troupe.hid hl
  have HN := Troupe.hid hn
  clear hl hn
  go_enter Try.func12, Try.ntmps12
  go_wp2_with fail
  go_loopw [5, 10] (fun v5 v10 wr => ∃ k : Nat, k ≤ n ∧ v10 = .int .i64 k ∧ wr.ownsRow w.heap.size 30 1 v5 (workedV (evs.take k) actor).length (ids (workedV (evs.take k) actor)) ∧ Below w.heap.size w wr) (fun _ v10 _ => n - (intOf v10).toNat)
  case atStart => exact ⟨0, Nat.zero_le _, rfl, World.ownsRow_nil _ _ _ _, Below.refl _ _⟩
  case round =>
    obtain ⟨k, hk, rfl, ho, hb⟩ := hrel
    obtain ⟨wa, rfl⟩ : ∃ wa : World, wa = wr := ⟨_, rfl⟩
    have HB := Troupe.hid hb
    have HW := Troupe.hid ho
    clear hb ho
    by_cases hlt : k < n
    · obtain ⟨e, hx⟩ : ∃ e, evs[k]? = some e := ⟨_, List.getElem?_eq_getElem (by have := HN.out; omega)⟩
      have HX := Troupe.hid hx
      have WT := Troupe.hid (worked_take hx actor)
      have WL : Hid ((workedV (evs.take k) actor).length ≤ 300) := by
        have h1 := worked_le (evs.take k) actor
        rw [List.length_take] at h1
        unfold Hid
        omega
      obtain ⟨b, off, rfl, -, h1⟩ := cells_at (sz := 9) (fun _ => rfl) (by decide) (HL.out.below HB.out) hx
      have d0 : wa.cell? ⟨b, off + k * 9, none⟩ = some (.int .i64 e.kd) := h1 0 (by decide) _ rfl
      have d1 : wa.cell? ⟨b, off + k * 9 + 1, none⟩ = some (.int .i64 e.actor) := h1 1 (by decide) _ rfl
      have d2 : wa.cell? ⟨b, off + k * 9 + 2, none⟩ = some (.int .u64 e.id) := h1 2 (by decide) _ rfl
      have d3 : wa.cell? ⟨b, off + k * 9 + 3, none⟩ = some (.int .i64 e.src) := h1 3 (by decide) _ rfl
      have d4 : wa.cell? ⟨b, off + k * 9 + 4, none⟩ = some (.int .i64 e.dst) := h1 4 (by decide) _ rfl
      have d5 : wa.cell? ⟨b, off + k * 9 + 5, none⟩ = some (.string e.name) := h1 5 (by decide) _ rfl
      have d6 : wa.cell? ⟨b, off + k * 9 + 6, none⟩ = some (.int .i64 e.n) := h1 6 (by decide) _ rfl
      have d7 : wa.cell? ⟨b, off + k * 9 + 7, none⟩ = some (.int .i64 e.why) := h1 7 (by decide) _ rfl
      have d8 : wa.cell? ⟨b, off + k * 9 + 8, none⟩ = some (.bool e.timed) := h1 8 (by decide) _ rfl
      clear h1 hx
      obtain ⟨A0, c0, rfl, -⟩ := own_form HW.out
      generalize workedV (evs.take k) actor = out at *
      have F1 : Below w.heap.size w (wa.alloc (.cells #[.int .i64 e.kd, .int .i64 e.actor, .int .u64 e.id, .int .i64 e.src, .int .i64 e.dst, .string e.name, .int .i64 e.n, .int .i64 e.why, .bool e.timed] 32)) := HB.out.alloc HB.out.size _
      have O1 := HW.out.alloc (.cells #[.int .i64 e.kd, .int .i64 e.actor, .int .u64 e.id, .int .i64 e.src, .int .i64 e.dst, .string e.name, .int .i64 e.n, .int .i64 e.why, .bool e.timed] 32)
      have HF1 := Troupe.hid F1
      have HO1 := Troupe.hid O1
      clear F1 O1
      have F2 : Below w.heap.size w ((wa.alloc (.cells #[.int .i64 e.kd, .int .i64 e.actor, .int .u64 e.id, .int .i64 e.src, .int .i64 e.dst, .string e.name, .int .i64 e.n, .int .i64 e.why, .bool e.timed] 32)).alloc (.cells #[.int .u64 e.id] 30)) := HF1.out.alloc HF1.out.size _
      have O2 := HO1.out.alloc (.cells #[.int .u64 e.id] 30)
      have C2 : Cells ((wa.alloc (.cells #[.int .i64 e.kd, .int .i64 e.actor, .int .u64 e.id, .int .i64 e.src, .int .i64 e.dst, .string e.name, .int .i64 e.n, .int .i64 e.why, .bool e.timed] 32)).alloc (.cells #[.int .u64 e.id] 30)) (wa.heap.size + 1 + 1) (some ⟨wa.heap.size + 1, 0, none⟩) (ids [e.id]) := by
        have := (Blk.new (wa.alloc (.cells #[.int .i64 e.kd, .int .i64 e.actor, .int .u64 e.id, .int .i64 e.src, .int .i64 e.dst, .string e.name, .int .i64 e.n, .int .i64 e.why, .bool e.timed] 32)) 30 [.int .u64 e.id]).blk_cells
        simpa [ids] using this
      have HF2 := Troupe.hid F2
      have HO2 := Troupe.hid O2
      have HC2 := Troupe.hid C2
      have Z2 := F2.size
      clear F2 O2 C2
      cases hx1 : (e.kd == 3) with
      | false =>
        have WE : Hid (workedV (evs.take (k + 1)) actor = out) := by unfold Hid; rw [WT.out, hx1]; simp
        go_wp2_with fail
        go_roundw
        case rel => exact ⟨k + 1, by omega, by go_num, by rw [WE.out]; exact HO1.out, HF1.out⟩
        case measure => simp [intOf]; omega
      | true =>
      cases hx2 : (e.actor == actor) with
      | false =>
        have WE : Hid (workedV (evs.take (k + 1)) actor = out) := by unfold Hid; rw [WT.out, hx1, hx2]; simp
        go_wp2_with fail
        go_roundw
        case rel => exact ⟨k + 1, by omega, by go_num, by rw [WE.out]; exact HO1.out, HF1.out⟩
        case measure => simp [intOf]; omega
      | true =>
        have WE : Hid (workedV (evs.take (k + 1)) actor = out ++ [e.id]) := by unfold Hid; rw [WT.out, hx1, hx2]; rfl
        go_wp2_with first
          | (at_builtin; refine wpList_app rfl (.tmp 23) (.tmp 26) 36 rfl w.heap.size 30 info30 Try.underlying36 rfl (by decide) (.slice A0 out.length c0) out.length (ids out) rfl HO2.out _ (some ⟨wa.heap.size + 1, 0, none⟩) 1 1 (ids [e.id]) rfl rfl HC2.out (fun h => by cases h) (one_ids _) (by have := WL.out; omega) (by have := WL.out; unfold maxLen; omega) Z2 ?_; intro v4 w4 h'; rw [← ids_app] at h'; have O4 := Troupe.hid h'.own; have F4 := Troupe.hid (HF2.out.trans (h'.frm.below Z2 (fun k hk => (HO2.out.lt k hk).1))); clear h')
          | fail
        go_roundw
        case rel => exact ⟨k + 1, by omega, by go_num, by rw [WE.out, List.length_append]; exact O4.out, F4.out⟩
        case measure => simp [intOf]; omega
    · obtain rfl : k = n := by omega
      have WE : Hid (evs.take k = evs) := List.take_of_length_le (by have := HN.out; omega)
      rw [WE.out] at HW
      go_wp2_with fail
      go_ret
      exact ⟨_, rfl, HW.out, HB.out⟩
set_option maxRecDepth 100000 in
set_option maxHeartbeats 4000000 in
theorem rworked_any {Al : Option Addr} {n cl : Nat} {evs : List Ev} (actor : Int) (w : World) (hn : evs.length = n) (hl : Cells w w.heap.size Al (flatV evs)) (hel : n ≤ 300) :
    Calls Try.prog 13 #[.slice Al n cl, .int .i64 actor] w fun en w' => ∃ v, en = .returned v ∧ w'.ownsRow w.heap.size 30 1 v (workedV evs actor).length (ids (workedV evs actor)) ∧ Below w.heap.size w w' := by
  have HL := Troupe.hid hl
  have HN := Troupe.hid hn
  clear hl hn
  go_enter Try.func13, Try.ntmps13
  go_wp2_with fail
  go_loopw [5, 6] (fun v5 v10 wr => ∃ k : Nat, k ≤ n ∧ v10 = .int .i64 k ∧ wr.ownsRow w.heap.size 30 1 v5 (workedV (evs.take k) actor).length (ids (workedV (evs.take k) actor)) ∧ Below w.heap.size w wr) (fun _ v10 _ => n - (intOf v10).toNat)
  case atStart => exact ⟨0, Nat.zero_le _, rfl, World.ownsRow_nil _ _ _ _, Below.refl _ _⟩
  case round =>
    obtain ⟨k, hk, rfl, ho, hb⟩ := hrel
    obtain ⟨wa, rfl⟩ : ∃ wa : World, wa = wr := ⟨_, rfl⟩
    have HB := Troupe.hid hb
    have HW := Troupe.hid ho
    clear hb ho
    by_cases hlt : k < n
    · obtain ⟨e, hx⟩ : ∃ e, evs[k]? = some e := ⟨_, List.getElem?_eq_getElem (by have := HN.out; omega)⟩
      have HX := Troupe.hid hx
      have WT := Troupe.hid (worked_take hx actor)
      have WL : Hid ((workedV (evs.take k) actor).length ≤ 300) := by
        have h1 := worked_le (evs.take k) actor
        rw [List.length_take] at h1
        unfold Hid
        omega
      obtain ⟨b, off, rfl, -, h1⟩ := cells_at (sz := 9) (fun _ => rfl) (by decide) (HL.out.below HB.out) hx
      have d0 : wa.cell? ⟨b, off + k * 9, none⟩ = some (.int .i64 e.kd) := h1 0 (by decide) _ rfl
      have d1 : wa.cell? ⟨b, off + k * 9 + 1, none⟩ = some (.int .i64 e.actor) := h1 1 (by decide) _ rfl
      have d2 : wa.cell? ⟨b, off + k * 9 + 2, none⟩ = some (.int .u64 e.id) := h1 2 (by decide) _ rfl
      have d3 : wa.cell? ⟨b, off + k * 9 + 3, none⟩ = some (.int .i64 e.src) := h1 3 (by decide) _ rfl
      have d4 : wa.cell? ⟨b, off + k * 9 + 4, none⟩ = some (.int .i64 e.dst) := h1 4 (by decide) _ rfl
      have d5 : wa.cell? ⟨b, off + k * 9 + 5, none⟩ = some (.string e.name) := h1 5 (by decide) _ rfl
      have d6 : wa.cell? ⟨b, off + k * 9 + 6, none⟩ = some (.int .i64 e.n) := h1 6 (by decide) _ rfl
      have d7 : wa.cell? ⟨b, off + k * 9 + 7, none⟩ = some (.int .i64 e.why) := h1 7 (by decide) _ rfl
      have d8 : wa.cell? ⟨b, off + k * 9 + 8, none⟩ = some (.bool e.timed) := h1 8 (by decide) _ rfl
      clear h1 hx
      obtain ⟨A0, c0, rfl, -⟩ := own_form HW.out
      generalize workedV (evs.take k) actor = out at *
      have HF1 := HB
      have HO1 := HW
      have F2 : Below w.heap.size w (wa.alloc (.cells #[.int .u64 e.id] 30)) := HF1.out.alloc HF1.out.size _
      have O2 := HO1.out.alloc (.cells #[.int .u64 e.id] 30)
      have C2 : Cells (wa.alloc (.cells #[.int .u64 e.id] 30)) (wa.heap.size + 1) (some ⟨wa.heap.size, 0, none⟩) (ids [e.id]) := by
        have := (Blk.new wa 30 [.int .u64 e.id]).blk_cells
        simpa [ids] using this
      have HF2 := Troupe.hid F2
      have HO2 := Troupe.hid O2
      have HC2 := Troupe.hid C2
      have Z2 := F2.size
      clear F2 O2 C2
      cases hx1 : (e.kd == 3) with
      | false =>
        have WE : Hid (workedV (evs.take (k + 1)) actor = out) := by unfold Hid; rw [WT.out, hx1]; simp
        go_wp2_with fail
        go_roundw
        case rel => exact ⟨k + 1, by omega, by go_num, by rw [WE.out]; exact HO1.out, HF1.out⟩
        case measure => simp [intOf]; omega
      | true =>
      cases hx2 : (e.actor == actor) with
      | false =>
        have WE : Hid (workedV (evs.take (k + 1)) actor = out) := by unfold Hid; rw [WT.out, hx1, hx2]; simp
        go_wp2_with fail
        go_roundw
        case rel => exact ⟨k + 1, by omega, by go_num, by rw [WE.out]; exact HO1.out, HF1.out⟩
        case measure => simp [intOf]; omega
      | true =>
        have WE : Hid (workedV (evs.take (k + 1)) actor = out ++ [e.id]) := by unfold Hid; rw [WT.out, hx1, hx2]; rfl
        go_wp2_with first
          | (at_builtin; refine wpList_app rfl (.tmp 28) (.tmp 34) 36 rfl w.heap.size 30 info30 Try.underlying36 rfl (by decide) (.slice A0 out.length c0) out.length (ids out) rfl HO2.out _ (some ⟨wa.heap.size, 0, none⟩) 1 1 (ids [e.id]) rfl rfl HC2.out (fun h => by cases h) (one_ids _) (by have := WL.out; omega) (by have := WL.out; unfold maxLen; omega) Z2 ?_; intro v4 w4 h'; rw [← ids_app] at h'; have O4 := Troupe.hid h'.own; have F4 := Troupe.hid (HF2.out.trans (h'.frm.below Z2 (fun k hk => (HO2.out.lt k hk).1))); clear h')
          | fail
        go_roundw
        case rel => exact ⟨k + 1, by omega, by go_num, by rw [WE.out, List.length_append]; exact O4.out, F4.out⟩
        case measure => simp [intOf]; omega
    · obtain rfl : k = n := by omega
      have WE : Hid (evs.take k = evs) := List.take_of_length_le (by have := HN.out; omega)
      rw [WE.out] at HW
      go_wp2_with fail
      go_ret
      exact ⟨_, rfl, HW.out, HB.out⟩

set_option maxRecDepth 100000 in
theorem sameU_any {Aa Ab : Option Addr} {ca cb : Nat} (l : List Int) (w : World) (ha : Cells w w.heap.size Aa (ids l)) (hb : Cells w w.heap.size Ab (ids l)) (hm : l.length ≤ 300) :
    Calls Try.prog 9 #[.slice Aa l.length ca, .slice Ab l.length cb] w fun en w' => en = .returned (.bool true) ∧ Below w.heap.size w w' := by
  obtain ⟨n, hn⟩ : ∃ n, l.length = n := ⟨_, rfl⟩
  have HN := Troupe.hid hn
  have HA := Troupe.hid ha
  have HC := Troupe.hid hb
  rw [hn] at hm ⊢
  clear ha hb hn
  have hnn : ((n : Int) != n) = false := by simp
  go_enter Try.func9, Try.ntmps9
  go_wp2_with fail
  go_loopw [5] (fun v5 wr => ∃ k : Nat, k ≤ n ∧ v5 = .int .i64 k ∧ Below w.heap.size w wr) (fun v5 _ => n - (intOf v5).toNat)
  case atStart => exact ⟨0, Nat.zero_le _, rfl, Below.refl _ _⟩
  case round =>
    obtain ⟨k, hk, rfl, hb⟩ := hrel
    obtain ⟨wa, rfl⟩ : ∃ wa : World, wa = wr := ⟨_, rfl⟩
    have HB := Troupe.hid hb
    clear hb
    by_cases hlt : k < n
    · obtain ⟨x, hx⟩ : ∃ x, l[k]? = some x := ⟨_, List.getElem?_eq_getElem (by have := HN.out; omega)⟩
      obtain ⟨b, off, rfl, -, h1⟩ := cells_at (f := fun n => [Value.int .u64 n]) (sz := 1) (fun _ => rfl) (by decide) (HA.out.below HB.out) hx
      obtain ⟨b2, off2, rfl, -, h2⟩ := cells_at (f := fun n => [Value.int .u64 n]) (sz := 1) (fun _ => rfl) (by decide) (HC.out.below HB.out) hx
      have d0 : wa.cell? ⟨b, off + k, none⟩ = some (.int .u64 x) := by have := h1 0 (by decide) _ rfl; rwa [Nat.mul_one, Nat.add_zero] at this
      have d1 : wa.cell? ⟨b2, off2 + k, none⟩ = some (.int .u64 x) := by have := h2 0 (by decide) _ rfl; rwa [Nat.mul_one, Nat.add_zero] at this
      have hxx : (x != x) = false := by simp
      clear h1 h2 hx
      go_wp2_with fail
      go_quiet (fail)
      go_wp2_with fail
      go_roundw
      case rel => exact ⟨k + 1, by omega, by go_num, HB.out.trans ((Frm.refl (fun _ => False) wa).drewN _ |>.below HB.out.size (fun _ h => h.elim))⟩
      case measure => simp [intOf]; omega
    · obtain rfl : k = n := by omega
      go_wp2_with fail
      go_ret
      exact ⟨rfl, HB.out⟩

set_option maxRecDepth 100000 in
theorem indexU_any (Ad : Option Addr) (n c B : Nat) (l : List Int) (v : Int) (w : World) (hl : l.length = n) (hn : n ≤ maxLen) (hc : Cells w B Ad (ids l)) :
    Calls Try.prog 44 #[.slice Ad n c, .int .u64 v] w fun e w' => e = .returned (.int .i64 (idxV l (eqV v))) ∧ w = w' := by
  have hn' : n ≤ 9223372036854775807 := hn
  have C0 := Troupe.hid hc
  clear hn hc
  go_enter Try.func44, Try.ntmps44
  go_wp2_with fail
  go_loopw [8] (fun i wr => ∃ j : Nat, j ≤ n ∧ i = .int .i64 j ∧ (∀ y ∈ l.take j, (eqV v) y = false) ∧ wr = w) (fun i _ => n - (intOf i).toNat)
  case atStart => exact ⟨0, Nat.zero_le _, rfl, by simp, rfl⟩
  case round =>
    obtain ⟨j, hj, rfl, hno, hw⟩ := hrel
    obtain rfl := hw.symm
    have NO := Troupe.hid hno
    clear hno
    by_cases hlt : j < n
    · obtain ⟨x, hx⟩ : ∃ x, l[j]? = some x := ⟨_, List.getElem?_eq_getElem (by omega)⟩
      obtain ⟨b, off, rfl, _, h1⟩ := cells_at (f := fun n => [Value.int .u64 n]) (sz := 1) (fun _ => rfl) (by decide) C0.out hx
      have d0 : w.cell? ⟨b, off + j, none⟩ = some (.int .u64 x) := by have := h1 0 (by decide) _ rfl; rwa [Nat.mul_one, Nat.add_zero] at this
      have X := Troupe.hid hx
      clear h1 hx
      cases hp : (v == x) with
      | true =>
        have FIN := Troupe.hid (idxV_some (p := eqV v) X.out hp NO.out)
        go_wp2_with fail
        go_ret
        exact ⟨by rw [FIN.out]; rfl, rfl⟩
      | false =>
        have NO2 : Hid (∀ y ∈ l.take (j + 1), (eqV v) y = false) := by
          intro y hy
          rw [List.take_add_one, X.out] at hy
          rcases List.mem_append.1 hy with h | h
          · exact NO.out y h
          · simp at h; subst h; exact hp
        go_wp2_with fail
        go_roundw
        case rel => exact ⟨j + 1, by omega, by go_num, NO2.out, by trivial⟩
        case measure => simp [intOf]; omega
    · have hall : idxV l (eqV v) = -1 := idxV_none (by have h := NO.out; rwa [List.take_of_length_le (by omega)] at h)
      have FIN := Troupe.hid hall
      clear hall
      go_wp2_with fail
      go_ret
      exact ⟨by rw [FIN.out]; rfl, rfl⟩
theorem hasU_any (Ad : Option Addr) (n c B : Nat) (l : List Int) (v : Int) (w : World) (hl : l.length = n) (hn : n ≤ maxLen) (hc : Cells w B Ad (ids l)) :
    Calls Try.prog 30 #[.slice Ad n c, .int .u64 v] w fun e w' => e = .returned (.bool (l.any (eqV v))) ∧ w = w' := by
  have IX := Troupe.hid (indexU_any Ad n c B l v w hl hn hc)
  clear hc
  obtain ⟨q, hq⟩ : ∃ q, idxV l (eqV v) = q := ⟨_, rfl⟩
  have hany := any_idx l (eqV v)
  rw [hq] at IX hany
  have HA := Troupe.hid hany
  clear hany hq
  go_enter Try.func30, Try.ntmps30
  go_wp2_with fail
  refine IX.out.mono ?_
  rintro e w2 ⟨rfl, rfl⟩
  go_wp2_with fail
  go_ret
  exact ⟨by rw [HA.out]; rfl, rfl⟩

/-! ### the first sending of a message -/
def sentIn (l : List Ev) (id : Int) : Option Ev := l.find? fun e => e.kd == 2 && e.id == id
theorem sentIn_take {l : List Ev} {k : Nat} {e : Ev} (he : l[k]? = some e) (id : Int) : sentIn (l.take (k + 1)) id = (sentIn (l.take k) id).or (if (e.kd == 2 && e.id == id) = true then some e else none) := by
  unfold sentIn
  rw [List.take_add_one, he, List.find?_append]
  congr 1
  by_cases h : (e.kd == 2 && e.id == id) = true
  · simp [h]
  · simp [h]
def evVal (e : Ev) : Value := .agg #[.int .i64 e.kd, .int .i64 e.actor, .int .u64 e.id, .int .i64 e.src, .int .i64 e.dst, .string e.name, .int .i64 e.n, .int .i64 e.why, .bool e.timed]
def fitV (l : List Ev) (src dst : Int) (e : Ev) : Bool := (e.kd == 3 || e.kd == 5) && (match sentIn l e.id with | some m => m.src == src && m.dst == dst && !m.timed | none => false)
def stepV2 (l : List Ev) (src dst : Int) (out : List Int) (e : Ev) : List Int := if (fitV l src dst e && !(out.any (eqV e.id))) = true then out ++ [e.id] else out
def arrivedV (all l : List Ev) (src dst : Int) : List Int := l.foldl (stepV2 all src dst) []
theorem arrived_take {all l : List Ev} {k : Nat} {e : Ev} (he : l[k]? = some e) (src dst : Int) : arrivedV all (l.take (k + 1)) src dst = stepV2 all src dst (arrivedV all (l.take k) src dst) e := by
  unfold arrivedV
  rw [List.take_add_one, he, List.foldl_append]
  rfl
theorem foldl_len (all : List Ev) (src dst : Int) : ∀ (l : List Ev) (o : List Int), (l.foldl (stepV2 all src dst) o).length ≤ o.length + l.length
  | [], o => by simp
  | e :: l, o => by
    have h := foldl_len all src dst l (stepV2 all src dst o e)
    have h2 : (stepV2 all src dst o e).length ≤ o.length + 1 := by
      unfold stepV2
      split <;> simp
    rw [List.foldl_cons, List.length_cons]
    omega
theorem arrived_le (all l : List Ev) (src dst : Int) : (arrivedV all l src dst).length ≤ l.length := by
  have h := foldl_len all src dst l []
  rw [List.length_nil, Nat.zero_add] at h
  exact h
theorem own_mono {w : World} {base base' : Nat} {e : TypeId} {size n : Nat} {v : Value} {xs : List Value} (h : w.ownsRow base e size v n xs) (hb : base' ≤ base) : w.ownsRow base' e size v n xs := by
  obtain ⟨h1, h2 | ⟨g, cap, cur, h3, h4, r⟩⟩ := h
  · exact ⟨h1, .inl h2⟩
  · exact ⟨h1, .inr ⟨g, cap, cur, h3, Nat.le_trans hb h4, r⟩⟩
theorem zero32 (w : World) : (zeroValue 32).run Try.prog w = .ok (.agg #[.int .i64 0, .int .i64 0, .int .u64 0, .int .i64 0, .int .i64 0, .string ⟨#[]⟩, .int .i64 0, .int .i64 0, .bool false]) w := by kernel_rfl
section
variable {ops : Array Oper} {rest : List Oper} {o : Oper} {a : Act} {w : World} {Q : Exit → Act → World → Prop} {P : Program} {m : Nat} {q : IntKind} {n : Nat} {g : Int → Option Value}
theorem wpList_lookok (hgd : o.guard = none) (mm x : Operand) (T : TypeId) (hop : o.op = Op.lookup T mm x true) (K E : TypeId) (hT : P.underlying T = some (.map K E)) (hK : P.underlying K = some (.int q))
    (z : Value) (hz : (zeroValue E).run P w = .ok z w) (hm : a.eval mm = .map (some m)) (h : IMap w m q n g) (k : Int) (hx : a.eval x = .int q k) (v : Value) (b : Bool) (hv : (g k).getD z = v) (hb : (g k).isSome = b)
    (hK' : wpList P ops Q rest (a.put o.dst (.tuple #[v, .bool b])) w) : wpList P ops Q (o :: rest) a w := by
  subst hv hb
  refine wpList_plain hgd fun K' hK'' => ?_
  have hrun := h.run_look_ok hT hK hz k
  unfold Oper.wp
  simp [execOp, hop, hm, hx, hrun, Result.andThen]
  exact hK'' _ _ hK'
end
set_option maxRecDepth 100000 in
set_option maxHeartbeats 8000000 in
theorem arrived_any {Al : Option Addr} {n cl : Nat} {evs : List Ev} (src dst : Int) (w : World) (hn : evs.length = n) (hl : Cells w w.heap.size Al (flatV evs)) (hel : n ≤ 300) :
    Calls Try.prog 10 #[.slice Al n cl, .int .i64 src, .int .i64 dst] w fun en w' => ∃ v, en = .returned v ∧ w'.ownsRow w.heap.size 30 1 v (arrivedV evs evs src dst).length (ids (arrivedV evs evs src dst)) ∧ Below w.heap.size w w' := by
  have HL := Troupe.hid hl
  have HN := Troupe.hid hn
  have hmm := @run_makeMap Try.prog
  have HF0 : Hid (Below w.heap.size w (w.alloc (.map #[] 0))) := (Below.refl _ _).alloc (Nat.le_refl _) _
  have M0 : Hid (IMap (w.alloc (.map #[] 0)) w.heap.size .u64 0 (fun _ => none)) := IMap.made w .u64
  clear hl hn
  go_enter Try.func10, Try.ntmps10
  go_wp2_with fail
  generalize w.alloc (.map #[] 0) = w0 at *
  go_loopw [20] (fun v20 wr => ∃ (k cnt : Nat) (g : Int → Option Value), k ≤ n ∧ v20 = .int .i64 k ∧ IMap wr w.heap.size .u64 cnt g ∧ (∀ id, g id = (sentIn (evs.take k) id).map evVal) ∧ Below w.heap.size w wr) (fun v20 _ => n - (intOf v20).toNat)
  case atStart => exact ⟨0, 0, _, Nat.zero_le _, rfl, M0.out, fun id => rfl, HF0.out⟩
  case round =>
    obtain ⟨k, cnt, g, hk, rfl, hm, hg, hb⟩ := hrel
    obtain ⟨wa, rfl⟩ : ∃ wa : World, wa = wr := ⟨_, rfl⟩
    have HB := Troupe.hid hb
    have HM := Troupe.hid hm
    have HG := Troupe.hid hg
    clear hb hm hg
    by_cases hlt : k < n
    · obtain ⟨e, hx⟩ : ∃ e, evs[k]? = some e := ⟨_, List.getElem?_eq_getElem (by have := HN.out; omega)⟩
      have ST := Troupe.hid (sentIn_take hx)
      obtain ⟨b, off, rfl, -, h1⟩ := cells_at (sz := 9) (fun _ => rfl) (by decide) (HL.out.below HB.out) hx
      have d0 : wa.cell? ⟨b, off + k * 9, none⟩ = some (.int .i64 e.kd) := h1 0 (by decide) _ rfl
      have d1 : wa.cell? ⟨b, off + k * 9 + 1, none⟩ = some (.int .i64 e.actor) := h1 1 (by decide) _ rfl
      have d2 : wa.cell? ⟨b, off + k * 9 + 2, none⟩ = some (.int .u64 e.id) := h1 2 (by decide) _ rfl
      have d3 : wa.cell? ⟨b, off + k * 9 + 3, none⟩ = some (.int .i64 e.src) := h1 3 (by decide) _ rfl
      have d4 : wa.cell? ⟨b, off + k * 9 + 4, none⟩ = some (.int .i64 e.dst) := h1 4 (by decide) _ rfl
      have d5 : wa.cell? ⟨b, off + k * 9 + 5, none⟩ = some (.string e.name) := h1 5 (by decide) _ rfl
      have d6 : wa.cell? ⟨b, off + k * 9 + 6, none⟩ = some (.int .i64 e.n) := h1 6 (by decide) _ rfl
      have d7 : wa.cell? ⟨b, off + k * 9 + 7, none⟩ = some (.int .i64 e.why) := h1 7 (by decide) _ rfl
      have d8 : wa.cell? ⟨b, off + k * 9 + 8, none⟩ = some (.bool e.timed) := h1 8 (by decide) _ rfl
      clear h1 hx
      have hzB := HB.out.size
      cases hs : sentIn (evs.take k) e.id with
      | some s =>
        have GV : Hid ((g e.id).getD (.agg #[.int .i64 0, .int .i64 0, .int .u64 0, .int .i64 0, .int .i64 0, .string ⟨#[]⟩, .int .i64 0, .int .i64 0, .bool false]) = .agg #[.int .i64 s.kd, .int .i64 s.actor, .int .u64 s.id, .int .i64 s.src, .int .i64 s.dst, .string s.name, .int .i64 s.n, .int .i64 s.why, .bool s.timed] ∧ (g e.id).isSome = true) := by unfold Hid; rw [HG.out, hs]; exact ⟨rfl, rfl⟩
        have M2 := Troupe.hid ((HM.out.alloc (.cells #[.int .i64 e.kd, .int .i64 e.actor, .int .u64 e.id, .int .i64 e.src, .int .i64 e.dst, .string e.name, .int .i64 e.n, .int .i64 e.why, .bool e.timed] 32)).alloc (.cells #[.int .i64 s.kd, .int .i64 s.actor, .int .u64 s.id, .int .i64 s.src, .int .i64 s.dst, .string s.name, .int .i64 s.n, .int .i64 s.why, .bool s.timed] 32))
        have M1 := Troupe.hid (HM.out.alloc (.cells #[.int .i64 e.kd, .int .i64 e.actor, .int .u64 e.id, .int .i64 e.src, .int .i64 e.dst, .string e.name, .int .i64 e.n, .int .i64 e.why, .bool e.timed] 32))
        have F2 : Hid (Below w.heap.size w ((wa.alloc (.cells #[.int .i64 e.kd, .int .i64 e.actor, .int .u64 e.id, .int .i64 e.src, .int .i64 e.dst, .string e.name, .int .i64 e.n, .int .i64 e.why, .bool e.timed] 32)).alloc (.cells #[.int .i64 s.kd, .int .i64 s.actor, .int .u64 s.id, .int .i64 s.src, .int .i64 s.dst, .string s.name, .int .i64 s.n, .int .i64 s.why, .bool s.timed] 32))) := (HB.out.alloc (by omega) _).alloc (by simp; omega) _
        have G2 : Hid (∀ id, g id = (sentIn (evs.take (k + 1)) id).map evVal) := by
          intro id
          rw [HG.out, ST.out]
          by_cases hi : (e.kd == 2 && e.id == id) = true
          · have hid : e.id = id := eq_of_beq (Bool.and_eq_true_iff.1 hi).2
            rw [← hid, hs]; rfl
          · rw [if_neg hi, Option.or_none]
        cases hx1 : (e.kd == 2) with
        | false =>
          go_wp2_with first
            | (at_lookup; refine wpList_lookok rfl _ _ 53 rfl 30 32 Try.underlying53 Try.underlying30 _ (zero32 _) rfl M1.out _ rfl _ _ GV.out.1 GV.out.2 ?_)
            | fail
          go_roundw
          case rel => exact ⟨k + 1, cnt, g, by omega, by go_num, M2.out, G2.out, F2.out⟩
          case measure => simp [intOf]; omega
        | true =>
          go_wp2_with first
            | (at_lookup; refine wpList_lookok rfl _ _ 53 rfl 30 32 Try.underlying53 Try.underlying30 _ (zero32 _) rfl M1.out _ rfl _ _ GV.out.1 GV.out.2 ?_)
            | fail
          go_roundw
          case rel => exact ⟨k + 1, cnt, g, by omega, by go_num, M2.out, G2.out, F2.out⟩
          case measure => simp [intOf]; omega
      | none =>
        have GV : Hid ((g e.id).getD (.agg #[.int .i64 0, .int .i64 0, .int .u64 0, .int .i64 0, .int .i64 0, .string ⟨#[]⟩, .int .i64 0, .int .i64 0, .bool false]) = .agg #[.int .i64 0, .int .i64 0, .int .u64 0, .int .i64 0, .int .i64 0, .string ⟨#[]⟩, .int .i64 0, .int .i64 0, .bool false] ∧ (g e.id).isSome = false) := by unfold Hid; rw [HG.out, hs]; exact ⟨rfl, rfl⟩
        have M2 := Troupe.hid ((HM.out.alloc (.cells #[.int .i64 e.kd, .int .i64 e.actor, .int .u64 e.id, .int .i64 e.src, .int .i64 e.dst, .string e.name, .int .i64 e.n, .int .i64 e.why, .bool e.timed] 32)).alloc (.cells #[.int .i64 0, .int .i64 0, .int .u64 0, .int .i64 0, .int .i64 0, .string ⟨#[]⟩, .int .i64 0, .int .i64 0, .bool false] 32))
        have M1 := Troupe.hid (HM.out.alloc (.cells #[.int .i64 e.kd, .int .i64 e.actor, .int .u64 e.id, .int .i64 e.src, .int .i64 e.dst, .string e.name, .int .i64 e.n, .int .i64 e.why, .bool e.timed] 32))
        have F2 : Hid (Below w.heap.size w ((wa.alloc (.cells #[.int .i64 e.kd, .int .i64 e.actor, .int .u64 e.id, .int .i64 e.src, .int .i64 e.dst, .string e.name, .int .i64 e.n, .int .i64 e.why, .bool e.timed] 32)).alloc (.cells #[.int .i64 0, .int .i64 0, .int .u64 0, .int .i64 0, .int .i64 0, .string ⟨#[]⟩, .int .i64 0, .int .i64 0, .bool false] 32))) := (HB.out.alloc (by omega) _).alloc (by simp; omega) _
        cases hx1 : (e.kd == 2) with
        | false =>
          have G2 : Hid (∀ id, g id = (sentIn (evs.take (k + 1)) id).map evVal) := by
            intro id
            rw [HG.out, ST.out, hx1]
            simp
          go_wp2_with first
            | (at_lookup; refine wpList_lookok rfl _ _ 53 rfl 30 32 Try.underlying53 Try.underlying30 _ (zero32 _) rfl M1.out _ rfl _ _ GV.out.1 GV.out.2 ?_)
            | fail
          go_roundw
          case rel => exact ⟨k + 1, cnt, g, by omega, by go_num, M2.out, G2.out, F2.out⟩
          case measure => simp [intOf]; omega
        | true =>
          have G2 : Hid (∀ id, upd g e.id (some (evVal e)) id = (sentIn (evs.take (k + 1)) id).map evVal) := by
            intro id
            rw [ST.out, hx1]
            by_cases hi : id = e.id
            · subst hi
              rw [hs]; simp
            · rw [upd_ne _ _ hi, HG.out]
              have : (e.id == id) = false := beq_eq_false_iff_ne.2 (fun h => hi h.symm)
              simp [this]
          go_wp2_with first
            | (at_lookup; refine wpList_lookok rfl _ _ 53 rfl 30 32 Try.underlying53 Try.underlying30 _ (zero32 _) rfl M1.out _ rfl _ _ GV.out.1 GV.out.2 ?_)
            | (refine wpList_put rfl _ _ _ 53 rfl 30 32 Try.underlying53 Try.underlying30 rfl M2.out _ rfl (evVal e) rfl ?_; intro w4 h4 h5; have M4 := Troupe.hid h4; have F4 := Troupe.hid (F2.out.trans (h5.below F2.out.size (fun k hk => by omega))); clear h4 h5)
            | fail
          go_roundw
          case rel => exact ⟨k + 1, _, _, by omega, by go_num, M4.out, G2.out, F4.out⟩
          case measure => simp [intOf]; omega
    · obtain rfl : k = n := by omega
      have GE : Hid (∀ id, g id = (sentIn evs id).map evVal) := by
        intro id
        have h := HG.out id
        rwa [List.take_of_length_le (by have := HN.out; omega)] at h
      have HBB := HB
      clear HG M0 HF0 hmm HB
      have ZA : Hid (w.heap.size ≤ wa.heap.size) := HBB.out.size
      have ZM : Hid (w.heap.size < wa.heap.size) := HM.out.lt
      go_wp2_with fail
      go_loopw [12, 45] (fun v12 v45 wr => ∃ j : Nat, j ≤ k ∧ v45 = .int .i64 j ∧ wr.ownsRow wa.heap.size 30 1 v12 (arrivedV evs (evs.take j) src dst).length (ids (arrivedV evs (evs.take j) src dst)) ∧ IMap wr w.heap.size .u64 cnt g ∧ Below wa.heap.size wa wr) (fun _ v45 _ => k - (intOf v45).toNat)
      case atStart => exact ⟨0, Nat.zero_le _, rfl, World.ownsRow_nil _ _ _ _, HM.out, Below.refl _ _⟩
      case round =>
        obtain ⟨j, hj, rfl, ho, hm, hb⟩ := hrel
        obtain ⟨wb, rfl⟩ : ∃ wb : World, wb = wr := ⟨_, rfl⟩
        have HB := Troupe.hid hb
        have HO := Troupe.hid ho
        have HMb := Troupe.hid hm
        clear hb ho hm
        by_cases hlt : j < k
        · obtain ⟨e, hx⟩ : ∃ e, evs[j]? = some e := ⟨_, List.getElem?_eq_getElem (by have := HN.out; omega)⟩
          have AT := Troupe.hid (arrived_take (all := evs) hx src dst)
          have AL : Hid ((arrivedV evs (evs.take j) src dst).length ≤ 300) := by
            have h1 := arrived_le evs (evs.take j) src dst
            rw [List.length_take] at h1
            unfold Hid
            omega
          obtain ⟨b, off, rfl, -, h1⟩ := cells_at (sz := 9) (fun _ => rfl) (by decide) ((HL.out.below HBB.out).below (HB.out.mono ZA.out)) hx
          have d0 : wb.cell? ⟨b, off + j * 9, none⟩ = some (.int .i64 e.kd) := h1 0 (by decide) _ rfl
          have d1 : wb.cell? ⟨b, off + j * 9 + 1, none⟩ = some (.int .i64 e.actor) := h1 1 (by decide) _ rfl
          have d2 : wb.cell? ⟨b, off + j * 9 + 2, none⟩ = some (.int .u64 e.id) := h1 2 (by decide) _ rfl
          have d3 : wb.cell? ⟨b, off + j * 9 + 3, none⟩ = some (.int .i64 e.src) := h1 3 (by decide) _ rfl
          have d4 : wb.cell? ⟨b, off + j * 9 + 4, none⟩ = some (.int .i64 e.dst) := h1 4 (by decide) _ rfl
          have d5 : wb.cell? ⟨b, off + j * 9 + 5, none⟩ = some (.string e.name) := h1 5 (by decide) _ rfl
          have d6 : wb.cell? ⟨b, off + j * 9 + 6, none⟩ = some (.int .i64 e.n) := h1 6 (by decide) _ rfl
          have d7 : wb.cell? ⟨b, off + j * 9 + 7, none⟩ = some (.int .i64 e.why) := h1 7 (by decide) _ rfl
          have d8 : wb.cell? ⟨b, off + j * 9 + 8, none⟩ = some (.bool e.timed) := h1 8 (by decide) _ rfl
          clear h1 hx
          obtain ⟨A0, c0, rfl, -⟩ := own_form HO.out
          generalize arrivedV evs (evs.take j) src dst = out at *
          have hzB := HB.out.size
          cases hs : sentIn evs e.id with
          | none =>
            have GV : Hid ((g e.id).getD (.agg #[.int .i64 0, .int .i64 0, .int .u64 0, .int .i64 0, .int .i64 0, .string ⟨#[]⟩, .int .i64 0, .int .i64 0, .bool false]) = .agg #[.int .i64 0, .int .i64 0, .int .u64 0, .int .i64 0, .int .i64 0, .string ⟨#[]⟩, .int .i64 0, .int .i64 0, .bool false] ∧ (g e.id).isSome = false) := by unfold Hid; rw [GE.out, hs]; exact ⟨rfl, rfl⟩
            have WE : Hid (arrivedV evs (evs.take (j + 1)) src dst = out) := by unfold Hid; rw [AT.out]; unfold stepV2 fitV; rw [hs]; simp
            have M1 := Troupe.hid (HMb.out.alloc (.cells #[.int .i64 e.kd, .int .i64 e.actor, .int .u64 e.id, .int .i64 e.src, .int .i64 e.dst, .string e.name, .int .i64 e.n, .int .i64 e.why, .bool e.timed] 32))
            have M2 := Troupe.hid ((HMb.out.alloc (.cells #[.int .i64 e.kd, .int .i64 e.actor, .int .u64 e.id, .int .i64 e.src, .int .i64 e.dst, .string e.name, .int .i64 e.n, .int .i64 e.why, .bool e.timed] 32)).alloc (.cells #[.int .i64 0, .int .i64 0, .int .u64 0, .int .i64 0, .int .i64 0, .string ⟨#[]⟩, .int .i64 0, .int .i64 0, .bool false] 32))
            have O2 := Troupe.hid ((HO.out.alloc (.cells #[.int .i64 e.kd, .int .i64 e.actor, .int .u64 e.id, .int .i64 e.src, .int .i64 e.dst, .string e.name, .int .i64 e.n, .int .i64 e.why, .bool e.timed] 32)).alloc (.cells #[.int .i64 0, .int .i64 0, .int .u64 0, .int .i64 0, .int .i64 0, .string ⟨#[]⟩, .int .i64 0, .int .i64 0, .bool false] 32))
            have F2 : Hid (Below wa.heap.size wa ((wb.alloc (.cells #[.int .i64 e.kd, .int .i64 e.actor, .int .u64 e.id, .int .i64 e.src, .int .i64 e.dst, .string e.name, .int .i64 e.n, .int .i64 e.why, .bool e.timed] 32)).alloc (.cells #[.int .i64 0, .int .i64 0, .int .u64 0, .int .i64 0, .int .i64 0, .string ⟨#[]⟩, .int .i64 0, .int .i64 0, .bool false] 32))) := (HB.out.alloc (by omega) _).alloc (by simp; omega) _
            cases hx1 : (e.kd == 3) with
            | true =>
              go_wp2_with first
                | (at_lookup; refine wpList_lookok rfl _ _ 53 rfl 30 32 Try.underlying53 Try.underlying30 _ (zero32 _) rfl M1.out _ rfl _ _ GV.out.1 GV.out.2 ?_)
                | fail
              go_roundw
              case rel => exact ⟨j + 1, by omega, by go_num, by rw [WE.out]; exact O2.out, M2.out, F2.out⟩
              case measure => simp [intOf]; omega
            | false =>
              cases hx2 : (e.kd == 5) with
              | true =>
                go_wp2_with first
                  | (at_lookup; refine wpList_lookok rfl _ _ 53 rfl 30 32 Try.underlying53 Try.underlying30 _ (zero32 _) rfl M1.out _ rfl _ _ GV.out.1 GV.out.2 ?_)
                  | fail
                go_roundw
                case rel => exact ⟨j + 1, by omega, by go_num, by rw [WE.out]; exact O2.out, M2.out, F2.out⟩
                case measure => simp [intOf]; omega
              | false =>
                go_wp2_with first
                  | (at_lookup; refine wpList_lookok rfl _ _ 53 rfl 30 32 Try.underlying53 Try.underlying30 _ (zero32 _) rfl M1.out _ rfl _ _ GV.out.1 GV.out.2 ?_)
                  | fail
                go_roundw
                case rel => exact ⟨j + 1, by omega, by go_num, by rw [WE.out]; exact O2.out, M2.out, F2.out⟩
                case measure => simp [intOf]; omega
          | some s =>
            have GV : Hid ((g e.id).getD (.agg #[.int .i64 0, .int .i64 0, .int .u64 0, .int .i64 0, .int .i64 0, .string ⟨#[]⟩, .int .i64 0, .int .i64 0, .bool false]) = .agg #[.int .i64 s.kd, .int .i64 s.actor, .int .u64 s.id, .int .i64 s.src, .int .i64 s.dst, .string s.name, .int .i64 s.n, .int .i64 s.why, .bool s.timed] ∧ (g e.id).isSome = true) := by unfold Hid; rw [GE.out, hs]; exact ⟨rfl, rfl⟩
            have WF : Hid (∀ b, fitV evs src dst e = b → arrivedV evs (evs.take (j + 1)) src dst = if (b && !(out.any (eqV e.id))) = true then out ++ [e.id] else out) := by intro b hb; rw [AT.out]; unfold stepV2; rw [hb]
            have FV : Hid (fitV evs src dst e = ((e.kd == 3 || e.kd == 5) && (s.src == src && s.dst == dst && !s.timed))) := by unfold Hid fitV; rw [hs]
            obtain ⟨tb, htb⟩ : ∃ b, s.timed = b := ⟨_, rfl⟩
            rw [htb] at GV FV
            clear htb
            have M1 := Troupe.hid (HMb.out.alloc (.cells #[.int .i64 e.kd, .int .i64 e.actor, .int .u64 e.id, .int .i64 e.src, .int .i64 e.dst, .string e.name, .int .i64 e.n, .int .i64 e.why, .bool e.timed] 32))
            have M2 := Troupe.hid ((HMb.out.alloc (.cells #[.int .i64 e.kd, .int .i64 e.actor, .int .u64 e.id, .int .i64 e.src, .int .i64 e.dst, .string e.name, .int .i64 e.n, .int .i64 e.why, .bool e.timed] 32)).alloc (.cells #[.int .i64 s.kd, .int .i64 s.actor, .int .u64 s.id, .int .i64 s.src, .int .i64 s.dst, .string s.name, .int .i64 s.n, .int .i64 s.why, .bool tb] 32))
            have O2 := Troupe.hid ((HO.out.alloc (.cells #[.int .i64 e.kd, .int .i64 e.actor, .int .u64 e.id, .int .i64 e.src, .int .i64 e.dst, .string e.name, .int .i64 e.n, .int .i64 e.why, .bool e.timed] 32)).alloc (.cells #[.int .i64 s.kd, .int .i64 s.actor, .int .u64 s.id, .int .i64 s.src, .int .i64 s.dst, .string s.name, .int .i64 s.n, .int .i64 s.why, .bool tb] 32))
            have F2 : Hid (Below wa.heap.size wa ((wb.alloc (.cells #[.int .i64 e.kd, .int .i64 e.actor, .int .u64 e.id, .int .i64 e.src, .int .i64 e.dst, .string e.name, .int .i64 e.n, .int .i64 e.why, .bool e.timed] 32)).alloc (.cells #[.int .i64 s.kd, .int .i64 s.actor, .int .u64 s.id, .int .i64 s.src, .int .i64 s.dst, .string s.name, .int .i64 s.n, .int .i64 s.why, .bool tb] 32))) := (HB.out.alloc (by omega) _).alloc (by simp; omega) _
            cases hx1 : (e.kd == 3) with
            | true =>
              cases hc1 : (s.src == src) with
              | true =>
                cases hc2 : (s.dst == dst) with
                | true =>
                  cases tb with
                  | true =>
                    have WE : Hid (arrivedV evs (evs.take (j + 1)) src dst = out) := by unfold Hid; rw [WF.out _ FV.out]; simp [hx1]
                    go_wp2_with first
                      | (at_lookup; refine wpList_lookok rfl _ _ 53 rfl 30 32 Try.underlying53 Try.underlying30 _ (zero32 _) rfl M1.out _ rfl _ _ GV.out.1 GV.out.2 ?_)
                      | fail
                    go_roundw
                    case rel => exact ⟨j + 1, by omega, by go_num, by rw [WE.out]; exact O2.out, M2.out, F2.out⟩
                    case measure => simp [intOf]; omega
                  | false =>
                    obtain ⟨an, han⟩ : ∃ an, out.any (eqV e.id) = an := ⟨_, rfl⟩
                    have HU := Troupe.hid (hasU_any A0 out.length c0 _ out e.id ((wb.alloc (.cells #[.int .i64 e.kd, .int .i64 e.actor, .int .u64 e.id, .int .i64 e.src, .int .i64 e.dst, .string e.name, .int .i64 e.n, .int .i64 e.why, .bool e.timed] 32)).alloc (.cells #[.int .i64 s.kd, .int .i64 s.actor, .int .u64 s.id, .int .i64 s.src, .int .i64 s.dst, .string s.name, .int .i64 s.n, .int .i64 s.why, .bool false] 32)) rfl (by have := AL.out; unfold maxLen; omega) (own_cells O2.out))
                    rw [han] at HU
                    have HAN := Troupe.hid han
                    have F3 : Hid (Below wa.heap.size wa (((wb.alloc (.cells #[.int .i64 e.kd, .int .i64 e.actor, .int .u64 e.id, .int .i64 e.src, .int .i64 e.dst, .string e.name, .int .i64 e.n, .int .i64 e.why, .bool e.timed] 32)).alloc (.cells #[.int .i64 s.kd, .int .i64 s.actor, .int .u64 s.id, .int .i64 s.src, .int .i64 s.dst, .string s.name, .int .i64 s.n, .int .i64 s.why, .bool false] 32)).alloc (.cells #[.int .u64 e.id] 30))) := F2.out.alloc F2.out.size _
                    have O3 := Troupe.hid (O2.out.alloc (.cells #[.int .u64 e.id] 30))
                    have M3 := Troupe.hid (M2.out.alloc (.cells #[.int .u64 e.id] 30))
                    have C3 : Hid (Cells (((wb.alloc (.cells #[.int .i64 e.kd, .int .i64 e.actor, .int .u64 e.id, .int .i64 e.src, .int .i64 e.dst, .string e.name, .int .i64 e.n, .int .i64 e.why, .bool e.timed] 32)).alloc (.cells #[.int .i64 s.kd, .int .i64 s.actor, .int .u64 s.id, .int .i64 s.src, .int .i64 s.dst, .string s.name, .int .i64 s.n, .int .i64 s.why, .bool false] 32)).alloc (.cells #[.int .u64 e.id] 30)) (wb.heap.size + 1 + 1 + 1) (some ⟨wb.heap.size + 1 + 1, 0, none⟩) (ids [e.id])) := by
                      have := (Blk.new ((wb.alloc (.cells #[.int .i64 e.kd, .int .i64 e.actor, .int .u64 e.id, .int .i64 e.src, .int .i64 e.dst, .string e.name, .int .i64 e.n, .int .i64 e.why, .bool e.timed] 32)).alloc (.cells #[.int .i64 s.kd, .int .i64 s.actor, .int .u64 s.id, .int .i64 s.src, .int .i64 s.dst, .string s.name, .int .i64 s.n, .int .i64 s.why, .bool false] 32)) 30 [.int .u64 e.id]).blk_cells
                      unfold Hid
                      simpa [ids] using this
                    have Z3 := F3.out.size
                    clear han
                    cases an with
                    | true =>
                      have WE : Hid (arrivedV evs (evs.take (j + 1)) src dst = out) := by unfold Hid; rw [WF.out _ FV.out, HAN.out]; simp [hx1, hc1, hc2]
                      go_wp2_with first
                        | (at_lookup; refine wpList_lookok rfl _ _ 53 rfl 30 32 Try.underlying53 Try.underlying30 _ (zero32 _) rfl M1.out _ rfl _ _ GV.out.1 GV.out.2 ?_)
                        | fail
                      refine HU.out.mono ?_
                      rintro en w5 ⟨rfl, rfl⟩
                      go_wp2_with fail
                      go_roundw
                      case rel => exact ⟨j + 1, by omega, by go_num, by rw [WE.out]; exact O2.out, M2.out, F2.out⟩
                      case measure => simp [intOf]; omega
                    | false =>
                      have WE : Hid (arrivedV evs (evs.take (j + 1)) src dst = out ++ [e.id]) := by unfold Hid; rw [WF.out _ FV.out, HAN.out]; simp [hx1, hc1, hc2]
                      go_wp2_with first
                        | (at_lookup; refine wpList_lookok rfl _ _ 53 rfl 30 32 Try.underlying53 Try.underlying30 _ (zero32 _) rfl M1.out _ rfl _ _ GV.out.1 GV.out.2 ?_)
                        | fail
                      refine HU.out.mono ?_
                      rintro en w5 ⟨rfl, rfl⟩
                      go_wp2_with first
                        | (at_builtin; refine wpList_app rfl (.tmp 91) (.tmp 94) 36 rfl wa.heap.size 30 info30 Try.underlying36 rfl (by decide) (.slice A0 out.length c0) out.length (ids out) rfl O3.out _ (some ⟨wb.heap.size + 1 + 1, 0, none⟩) 1 1 (ids [e.id]) rfl rfl C3.out (fun h => by cases h) (one_ids _) (by have := AL.out; omega) (by have := AL.out; unfold maxLen; omega) Z3 ?_; intro v4 w4 h'; rw [← ids_app] at h'; have O4 := Troupe.hid h'.own; have F4 := Troupe.hid (F3.out.trans (h'.frm.below Z3 (fun k hk => (O3.out.lt k hk).1))); have M4 := Troupe.hid (M3.out.frm h'.frm (fun hk => by have h1 := (O3.out.lt _ hk).1; have h2 := ZM.out; omega)); clear h')
                        | fail
                      go_roundw
                      case rel => exact ⟨j + 1, by omega, by go_num, by rw [WE.out, List.length_append]; exact O4.out, M4.out, F4.out⟩
                      case measure => simp [intOf]; omega
                | false =>
                  have WE : Hid (arrivedV evs (evs.take (j + 1)) src dst = out) := by unfold Hid; rw [WF.out _ FV.out]; simp [hx1, hc2]
                  go_wp2_with first
                    | (at_lookup; refine wpList_lookok rfl _ _ 53 rfl 30 32 Try.underlying53 Try.underlying30 _ (zero32 _) rfl M1.out _ rfl _ _ GV.out.1 GV.out.2 ?_)
                    | fail
                  go_roundw
                  case rel => exact ⟨j + 1, by omega, by go_num, by rw [WE.out]; exact O2.out, M2.out, F2.out⟩
                  case measure => simp [intOf]; omega
              | false =>
                have WE : Hid (arrivedV evs (evs.take (j + 1)) src dst = out) := by unfold Hid; rw [WF.out _ FV.out]; simp [hx1, hc1]
                go_wp2_with first
                  | (at_lookup; refine wpList_lookok rfl _ _ 53 rfl 30 32 Try.underlying53 Try.underlying30 _ (zero32 _) rfl M1.out _ rfl _ _ GV.out.1 GV.out.2 ?_)
                  | fail
                go_roundw
                case rel => exact ⟨j + 1, by omega, by go_num, by rw [WE.out]; exact O2.out, M2.out, F2.out⟩
                case measure => simp [intOf]; omega
            | false =>
              cases hx2 : (e.kd == 5) with
              | true =>
                cases hc1 : (s.src == src) with
                | true =>
                  cases hc2 : (s.dst == dst) with
                  | true =>
                    cases tb with
                    | true =>
                      have WE : Hid (arrivedV evs (evs.take (j + 1)) src dst = out) := by unfold Hid; rw [WF.out _ FV.out]; simp [hx1, hx2]
                      go_wp2_with first
                        | (at_lookup; refine wpList_lookok rfl _ _ 53 rfl 30 32 Try.underlying53 Try.underlying30 _ (zero32 _) rfl M1.out _ rfl _ _ GV.out.1 GV.out.2 ?_)
                        | fail
                      go_roundw
                      case rel => exact ⟨j + 1, by omega, by go_num, by rw [WE.out]; exact O2.out, M2.out, F2.out⟩
                      case measure => simp [intOf]; omega
                    | false =>
                      obtain ⟨an, han⟩ : ∃ an, out.any (eqV e.id) = an := ⟨_, rfl⟩
                      have HU := Troupe.hid (hasU_any A0 out.length c0 _ out e.id ((wb.alloc (.cells #[.int .i64 e.kd, .int .i64 e.actor, .int .u64 e.id, .int .i64 e.src, .int .i64 e.dst, .string e.name, .int .i64 e.n, .int .i64 e.why, .bool e.timed] 32)).alloc (.cells #[.int .i64 s.kd, .int .i64 s.actor, .int .u64 s.id, .int .i64 s.src, .int .i64 s.dst, .string s.name, .int .i64 s.n, .int .i64 s.why, .bool false] 32)) rfl (by have := AL.out; unfold maxLen; omega) (own_cells O2.out))
                      rw [han] at HU
                      have HAN := Troupe.hid han
                      have F3 : Hid (Below wa.heap.size wa (((wb.alloc (.cells #[.int .i64 e.kd, .int .i64 e.actor, .int .u64 e.id, .int .i64 e.src, .int .i64 e.dst, .string e.name, .int .i64 e.n, .int .i64 e.why, .bool e.timed] 32)).alloc (.cells #[.int .i64 s.kd, .int .i64 s.actor, .int .u64 s.id, .int .i64 s.src, .int .i64 s.dst, .string s.name, .int .i64 s.n, .int .i64 s.why, .bool false] 32)).alloc (.cells #[.int .u64 e.id] 30))) := F2.out.alloc F2.out.size _
                      have O3 := Troupe.hid (O2.out.alloc (.cells #[.int .u64 e.id] 30))
                      have M3 := Troupe.hid (M2.out.alloc (.cells #[.int .u64 e.id] 30))
                      have C3 : Hid (Cells (((wb.alloc (.cells #[.int .i64 e.kd, .int .i64 e.actor, .int .u64 e.id, .int .i64 e.src, .int .i64 e.dst, .string e.name, .int .i64 e.n, .int .i64 e.why, .bool e.timed] 32)).alloc (.cells #[.int .i64 s.kd, .int .i64 s.actor, .int .u64 s.id, .int .i64 s.src, .int .i64 s.dst, .string s.name, .int .i64 s.n, .int .i64 s.why, .bool false] 32)).alloc (.cells #[.int .u64 e.id] 30)) (wb.heap.size + 1 + 1 + 1) (some ⟨wb.heap.size + 1 + 1, 0, none⟩) (ids [e.id])) := by
                        have := (Blk.new ((wb.alloc (.cells #[.int .i64 e.kd, .int .i64 e.actor, .int .u64 e.id, .int .i64 e.src, .int .i64 e.dst, .string e.name, .int .i64 e.n, .int .i64 e.why, .bool e.timed] 32)).alloc (.cells #[.int .i64 s.kd, .int .i64 s.actor, .int .u64 s.id, .int .i64 s.src, .int .i64 s.dst, .string s.name, .int .i64 s.n, .int .i64 s.why, .bool false] 32)) 30 [.int .u64 e.id]).blk_cells
                        unfold Hid
                        simpa [ids] using this
                      have Z3 := F3.out.size
                      clear han
                      cases an with
                      | true =>
                        have WE : Hid (arrivedV evs (evs.take (j + 1)) src dst = out) := by unfold Hid; rw [WF.out _ FV.out, HAN.out]; simp [hx1, hx2, hc1, hc2]
                        go_wp2_with first
                          | (at_lookup; refine wpList_lookok rfl _ _ 53 rfl 30 32 Try.underlying53 Try.underlying30 _ (zero32 _) rfl M1.out _ rfl _ _ GV.out.1 GV.out.2 ?_)
                          | fail
                        refine HU.out.mono ?_
                        rintro en w5 ⟨rfl, rfl⟩
                        go_wp2_with fail
                        go_roundw
                        case rel => exact ⟨j + 1, by omega, by go_num, by rw [WE.out]; exact O2.out, M2.out, F2.out⟩
                        case measure => simp [intOf]; omega
                      | false =>
                        have WE : Hid (arrivedV evs (evs.take (j + 1)) src dst = out ++ [e.id]) := by unfold Hid; rw [WF.out _ FV.out, HAN.out]; simp [hx1, hx2, hc1, hc2]
                        go_wp2_with first
                          | (at_lookup; refine wpList_lookok rfl _ _ 53 rfl 30 32 Try.underlying53 Try.underlying30 _ (zero32 _) rfl M1.out _ rfl _ _ GV.out.1 GV.out.2 ?_)
                          | fail
                        refine HU.out.mono ?_
                        rintro en w5 ⟨rfl, rfl⟩
                        go_wp2_with first
                          | (at_builtin; refine wpList_app rfl (.tmp 91) (.tmp 94) 36 rfl wa.heap.size 30 info30 Try.underlying36 rfl (by decide) (.slice A0 out.length c0) out.length (ids out) rfl O3.out _ (some ⟨wb.heap.size + 1 + 1, 0, none⟩) 1 1 (ids [e.id]) rfl rfl C3.out (fun h => by cases h) (one_ids _) (by have := AL.out; omega) (by have := AL.out; unfold maxLen; omega) Z3 ?_; intro v4 w4 h'; rw [← ids_app] at h'; have O4 := Troupe.hid h'.own; have F4 := Troupe.hid (F3.out.trans (h'.frm.below Z3 (fun k hk => (O3.out.lt k hk).1))); have M4 := Troupe.hid (M3.out.frm h'.frm (fun hk => by have h1 := (O3.out.lt _ hk).1; have h2 := ZM.out; omega)); clear h')
                          | fail
                        go_roundw
                        case rel => exact ⟨j + 1, by omega, by go_num, by rw [WE.out, List.length_append]; exact O4.out, M4.out, F4.out⟩
                        case measure => simp [intOf]; omega
                  | false =>
                    have WE : Hid (arrivedV evs (evs.take (j + 1)) src dst = out) := by unfold Hid; rw [WF.out _ FV.out]; simp [hx1, hx2, hc2]
                    go_wp2_with first
                      | (at_lookup; refine wpList_lookok rfl _ _ 53 rfl 30 32 Try.underlying53 Try.underlying30 _ (zero32 _) rfl M1.out _ rfl _ _ GV.out.1 GV.out.2 ?_)
                      | fail
                    go_roundw
                    case rel => exact ⟨j + 1, by omega, by go_num, by rw [WE.out]; exact O2.out, M2.out, F2.out⟩
                    case measure => simp [intOf]; omega
                | false =>
                  have WE : Hid (arrivedV evs (evs.take (j + 1)) src dst = out) := by unfold Hid; rw [WF.out _ FV.out]; simp [hx1, hx2, hc1]
                  go_wp2_with first
                    | (at_lookup; refine wpList_lookok rfl _ _ 53 rfl 30 32 Try.underlying53 Try.underlying30 _ (zero32 _) rfl M1.out _ rfl _ _ GV.out.1 GV.out.2 ?_)
                    | fail
                  go_roundw
                  case rel => exact ⟨j + 1, by omega, by go_num, by rw [WE.out]; exact O2.out, M2.out, F2.out⟩
                  case measure => simp [intOf]; omega
              | false =>
                have WE : Hid (arrivedV evs (evs.take (j + 1)) src dst = out) := by unfold Hid; rw [WF.out _ FV.out]; simp [hx1, hx2]
                go_wp2_with first
                  | (at_lookup; refine wpList_lookok rfl _ _ 53 rfl 30 32 Try.underlying53 Try.underlying30 _ (zero32 _) rfl M1.out _ rfl _ _ GV.out.1 GV.out.2 ?_)
                  | fail
                go_roundw
                case rel => exact ⟨j + 1, by omega, by go_num, by rw [WE.out]; exact O2.out, M2.out, F2.out⟩
                case measure => simp [intOf]; omega
        · obtain rfl : j = k := by omega
          have WE : Hid (evs.take j = evs) := List.take_of_length_le (by have := HN.out; omega)
          rw [WE.out] at HO
          go_wp2_with fail
          go_ret
          exact ⟨_, rfl, own_mono HO.out ZA.out, HBB.out.trans (HB.out.mono ZA.out)⟩
end Go.Proofs.Ytkjjhndccelbcaa
