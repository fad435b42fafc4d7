/- The reference's Count, Mod and Ints, and the law's flat, by contracts. -/
import Derived.Test.YtcgdghnmcahfeaaAlive
import Derived.Deep.QuietTactic
namespace Go.Proofs.Ytcgdghnmcahfeaa
open Go.RowKit Go.Maps Go.Troupe

theorem count_any (n : Int) (w : World) : Calls Try.prog 22 #[.int .i64 n] w fun e w' => e = .returned (.int .i64 (areaN n)) ∧ w' = w := by
  unfold areaN
  by_cases h1 : n < 0
  · rw [if_pos h1]
    go_enter Try.func22, Try.ntmps22
    go_wp2
    go_ret
    exact ⟨rfl, rfl⟩
  · rw [if_neg h1]
    by_cases h2 : 65536 < n
    · rw [if_pos h2]
      go_enter Try.func22, Try.ntmps22
      go_wp2
      go_ret
      exact ⟨rfl, rfl⟩
    · rw [if_neg h2]
      obtain ⟨m, rfl⟩ : ∃ m : Nat, n = m := ⟨n.toNat, by omega⟩
      rw [Int.toNat_natCast]
      go_enter Try.func22, Try.ntmps22
      go_wp2
      go_ret
      exact ⟨rfl, rfl⟩
def wordsI (l : List Int) : List Value := l.map (Value.int .i64)
set_option maxRecDepth 100000 in
set_option maxHeartbeats 400000 in
theorem ints_eq (A1 : Option Addr) (n c1 : Nat) (A2 : Option Addr) (c2 : Nat) (l : List Int) (w : World) (hl : l.length = n) (hn : n ≤ 1000000000) (h1 : Cells w w.heap.size A1 (wordsI l)) (h2 : Cells w w.heap.size A2 (wordsI l)) :
    Calls Try.prog 17 #[.slice A1 n c1, .slice A2 n c2] w fun e w' => e = .returned (.bool true) ∧ Below w.heap.size w w' := by
  have C1 := Troupe.hid h1
  have C2 := Troupe.hid h2
  clear h1 h2
  go_enter Try.func17, Try.ntmps17
  go_wp2_with fail
  go_loopw [5] (fun v5 wr => ∃ i : Nat, i ≤ n ∧ v5 = .int .i64 i ∧ Below w.heap.size w wr) (fun v5 _ => n - (intOf v5).toNat)
  case atStart => exact ⟨0, by omega, rfl, Below.refl _ _⟩
  case round =>
    obtain ⟨i, hi, rfl, hb⟩ := hrel
    have HB := Troupe.hid hb
    by_cases hlt : i < n
    · obtain ⟨x, hx⟩ : ∃ x, l[i]? = some x := ⟨_, List.getElem?_eq_getElem (by omega)⟩
      have hne : wordsI l ≠ [] := by intro e; have := congrArg List.length e; simp [wordsI] at this; subst this; simp at hx
      obtain ⟨b1, o1, hA1, _, g1⟩ := (C1.out.below hb).at_ hne
      obtain ⟨b2, o2, hA2, _, g2⟩ := (C2.out.below hb).at_ hne
      subst hA1 hA2
      have d1 : wr.cell? ⟨b1, o1 + i, none⟩ = some (.int .i64 x) := g1 i _ (by simp [wordsI, hx])
      have d2 : wr.cell? ⟨b2, o2 + i, none⟩ = some (.int .i64 x) := g2 i _ (by simp [wordsI, hx])
      clear g1 g2 hx hne hb
      go_wp2_with fail
      go_quiet (fail)
      go_wp2_with fail
      go_roundw
      case rel => exact ⟨i + 1, by omega, by go_num, HB.out.trans ((Frm.refl (fun _ => False) wr).drewN _ |>.below HB.out.size (fun _ h => h.elim))⟩
      case measure => simp [intOf]; omega
    · clear hb
      go_wp2_with fail
      go_ret
      exact ⟨rfl, HB.out⟩

theorem info3 : (Try.prog.info? 3).map (fun i => (i.zero, i.size, i.bytes)) = some (some (.int .i64 0), 1, 8) := by kernel_rfl
def flatI (l : List Rg) : List Int := l.flatMap fun r => [(r.1 : Int), (r.2 : Int)]
theorem flatI_len (l : List Rg) : (flatI l).length = l.length * 2 := by
  unfold flatI
  induction l with
  | nil => rfl
  | cons x l ih => rw [List.flatMap_cons, List.length_append, ih, List.length_cons]; simp; omega
theorem flatI_take (l : List Rg) (i : Nat) (r : Rg) (h : l[i]? = some r) : wordsI (flatI (l.take (i + 1))) = wordsI (flatI (l.take i)) ++ [.int .i64 r.1] ++ [.int .i64 r.2] := by
  rw [List.take_add_one, h]
  simp [flatI, wordsI]
/-- A row of ints of the call's own. -/
def Flat (w : World) (l : List Rg) (e : Ending) (w' : World) : Prop :=
  ∃ A c, e = .returned (.slice A (l.length * 2) c) ∧ w'.ownsRow w.heap.size 3 1 (.slice A (l.length * 2) c) (l.length * 2) (wordsI (flatI l)) ∧ Below w.heap.size w w'
theorem own_below {w w' : World} {base n size : Nat} {e : TypeId} {v : Value} {xs : List Value} (h : w.ownsRow base e size v n xs) (hb : Below w.heap.size w w') : w'.ownsRow base e size v n xs :=
  own_frm h (Frm.of_below hb) (fun k hk h' => by have := (h.lt k hk).2; omega)
theorem own_cells {w : World} {base n size cap : Nat} {e : TypeId} {A : Option Addr} {xs : List Value} (h : w.ownsRow base e size (.slice A n cap) n xs) : Cells w w.heap.size A xs := by
  obtain ⟨A', c', e', _, _, hc, _⟩ := own_form h
  simp only [Value.slice.injEq, true_and] at e'
  obtain ⟨rfl, rfl⟩ := e'
  exact hc
theorem Blk.blk_cells {w : World} {g : Nat} {t : TypeId} {cs : List Value} (h : Blk w g t cs) : Cells w (g + 1) (some ⟨g, 0, none⟩) cs := by
  have := Cells.blk (n := cs.length) h (Nat.lt_succ_self g)
  rwa [List.take_length] at this
set_option maxRecDepth 100000 in
set_option maxHeartbeats 1000000 in
theorem flat_any {p N : Nat} {S : Nat → Prop} {l : List Rg} (w : World) (h : Area w p S N l) :
    Calls Try.prog 18 #[.pointer (some ⟨p, 0, none⟩)] w (Flat w l) := by
  have hlen := h.len
  have RG := Troupe.hid (regions_any w h)
  clear h
  go_enter Try.func18, Try.ntmps18
  go_wp2_with fail
  refine RG.out.mono ?_
  rintro e w1 ⟨v, rfl, ho, hb⟩
  obtain ⟨A, c, rfl, -⟩ := own_form ho
  have HO := Troupe.hid ho
  have HB := Troupe.hid hb
  clear ho hb
  go_wp2_with fail
  go_loopw [3, 5] (fun v3 v5 wr => ∃ i : Nat, i ≤ l.length ∧ v5 = .int .i64 i ∧ wr.ownsRow w.heap.size 3 1 v3 (i * 2) (wordsI (flatI (l.take i))) ∧ wr.ownsRow w.heap.size 47 2 (.slice A l.length c) l.length (flatG l) ∧ Below w.heap.size w wr) (fun _ v5 _ => l.length - (intOf v5).toNat)
  case atStart => exact ⟨0, Nat.zero_le _, rfl, World.ownsRow_nil _ _ _ _, HO.out, HB.out⟩
  case round =>
    obtain ⟨i, hi, rfl, hv, ho, hb⟩ := hrel
    have HV := Troupe.hid hv
    have HO := Troupe.hid ho
    have HB := Troupe.hid hb
    obtain ⟨A3, c3, rfl, -⟩ := own_form hv
    clear hv ho hb
    by_cases hlt : i < l.length
    · obtain ⟨x, hx⟩ : ∃ x, l[i]? = some x := ⟨_, List.getElem?_eq_getElem hlt⟩
      obtain ⟨b, off, hA, _, d0, d1⟩ := (own_cells HO.out).rg hx
      subst hA
      have FT := Troupe.hid (flatI_take l i x hx)
      have X := Troupe.hid hx
      clear hx
      have F1 : Frm (fun _ => False) wr (wr.alloc (.cells #[.int .i64 x.1] 3)) := (Frm.refl _ wr).alloc _
      have V1 := Troupe.hid (own_frm HV.out F1 (fun _ _ h => h))
      have O1 := Troupe.hid (own_frm HO.out F1 (fun _ _ h => h))
      have C1 := Troupe.hid (Blk.blk_cells (Blk.new wr 3 [.int .i64 x.1]))
      have hw1 : (wr.alloc (.cells #[.int .i64 x.1] 3)).heap.size = wr.heap.size + 1 := by simp
      have B1 := Troupe.hid (HB.out.alloc HB.out.size (.cells #[.int .i64 x.1] 3))
      have hbs := HB.out.size
      have D1 := Troupe.hid d1
      clear F1 d1
      go_wp2_with (first
        | (at_builtin
           refine wpList_app rfl (.tmp 14) (.tmp 20) 39 rfl w.heap.size 3 info3 Try.underlying39 rfl (by decide) (.slice A3 (i * 2) c3) (i * 2) _ rfl V1.out (wr.heap.size + 1) (some ⟨wr.heap.size, 0, none⟩) 1 1 [.int .i64 x.1] rfl rfl C1.out (fun h => by cases h) (by simp [Value.oneCell']) (by omega) (by unfold maxLen; omega) (by omega) ?_
           intro v2 w2 h2
           obtain ⟨A4, c4, rfl, -⟩ := own_form h2.own
           have NE : Hid (∀ k, (Value.slice A3 (i * 2) c3).ownBlock = some k → ¬ (Value.slice (some ⟨b, off, none⟩) l.length c).ownBlock = some k) := by
             intro k hk hk2
             obtain ⟨cs, g1⟩ := own_at V1.out hk
             obtain ⟨cs2, g2⟩ := own_at O1.out hk2
             exact g1.ne g2 (by decide) rfl
           have O2 := Troupe.hid (own_frm O1.out h2.frm (fun k hk hk2 => NE.out k hk2 hk))
           obtain ⟨b', off', hA', _, _, d1⟩ := (own_cells O2.out).rg X.out
           obtain ⟨rfl, rfl⟩ : b = b' ∧ off = off' := by simpa using hA'
           have F2 : Frm (fun _ => False) w2 (w2.alloc (.cells #[.int .i64 x.2] 3)) := (Frm.refl _ w2).alloc _
           have V3 := Troupe.hid (own_frm h2.own F2 (fun _ _ h => h))
           have O3 := Troupe.hid (own_frm O2.out F2 (fun _ _ h => h))
           have C3 := Troupe.hid (Blk.blk_cells (Blk.new w2 3 [.int .i64 x.2]))
           have B2 : Below w.heap.size w w2 := B1.out.trans (h2.frm.below B1.out.size (fun k hk => (V1.out.lt k hk).1))
           have B3 := Troupe.hid (B2.alloc B2.size (.cells #[.int .i64 x.2] 3))
           have hbs2 := B2.size
           have hw3 : (w2.alloc (.cells #[.int .i64 x.2] 3)).heap.size = w2.heap.size + 1 := by simp
           clear h2 F2 B2 hA')
        | (at_builtin
           refine wpList_app rfl (.tmp 22) (.tmp 28) 39 rfl w.heap.size 3 info3 Try.underlying39 rfl (by decide) (.slice A4 (i * 2 + 1) c4) (i * 2 + 1) _ rfl V3.out (w2.heap.size + 1) (some ⟨w2.heap.size, 0, none⟩) 1 1 [.int .i64 x.2] rfl rfl C3.out (fun h => by cases h) (by simp [Value.oneCell']) (by omega) (by unfold maxLen; omega) (by omega) ?_
           intro v5 w5 h5
           have H5 := Troupe.hid h5
           clear h5))
      go_roundw
      case rel =>
        refine ⟨i + 1, by omega, by go_num, ?_, own_frm O3.out H5.out.frm (fun k hk hk2 => ?_), B3.out.trans (H5.out.frm.below B3.out.size (fun k hk => (V3.out.lt k hk).1))⟩
        · rw [FT.out, show (i + 1) * 2 = i * 2 + 1 + 1 by omega]; exact H5.out.own
        · obtain ⟨cs, g1⟩ := own_at V3.out hk2
          obtain ⟨cs2, g2⟩ := own_at O3.out hk
          exact g1.ne g2 (by decide) rfl
      case measure => simp [intOf]; omega
    · obtain rfl : i = l.length := by omega
      go_wp2_with fail
      go_ret
      exact ⟨A3, c3, rfl, by have := HV.out; rwa [List.take_length] at this, HB.out⟩
end Go.Proofs.Ytcgdghnmcahfeaa
