/- The reference's Forget by contract. -/
import Derived.Test.YtodkennpgfmenaaRefs
namespace Go.Proofs.Ytodkennpgfmenaa
open Go.RowKit Go.Maps Go.Troupe

theorem info45 : (Try.prog.info? 45).map (fun i => (i.zero, i.size, i.bytes)) = some (some (.agg #[.int .i64 0, .int .i64 0]), 2, 16) := by kernel_rfl
def but (l : List Giv) (child : Int) : List Giv := l.filter fun x => x.c != child
theorem but_take (l : List Giv) (child : Int) (i : Nat) (x : Giv) (hx : l[i]? = some x) : but (l.take (i + 1)) child = but (l.take i) child ++ (if x.c != child then [x] else []) := by
  unfold but
  rw [List.take_add_one, hx, List.filter_append]
  by_cases h : (x.c != child) = true
  · simp [h]
  · simp at h; simp [h]
theorem but_le (l : List Giv) (child : Int) : (but l child).length ≤ l.length := List.length_filter_le _ _
theorem flatG_app (l : List Giv) (x : Giv) : flatG (l ++ [x]) = flatG l ++ [.int .i64 x.c, .int .i64 x.at_] := by simp [flatG, gv]
def Forgets (w : World) (l : List Giv) (child : Int) (e : Ending) (w' : World) : Prop :=
  ∃ A c, e = .returned (.slice A (but l child).length c) ∧ w'.ownsRow w.heap.size 45 2 (.slice A (but l child).length c) (but l child).length (flatG (but l child)) ∧ Below w.heap.size w w'
set_option maxRecDepth 100000 in
set_option maxHeartbeats 1000000 in
theorem refForget_any (child : Int) (A : Option Addr) (n c : Nat) (l : List Giv) (w : World) (hl : l.length = n) (hn : n ≤ 1000) (hc : Cells w w.heap.size A (flatG l)) :
    Calls Try.prog 16 #[.slice A n c, .int .i64 child] w (Forgets w l child) := by
  have C0 := Troupe.hid hc
  clear hc
  go_enter Try.func16, Try.ntmps16
  go_wp2_with fail
  go_loopw [5, 6] (fun v5 v6 wr => ∃ (i : Nat) (A' : Option Addr) (c' : Nat), i ≤ n ∧ v6 = .int .i64 i ∧ v5 = .slice A' (but (l.take i) child).length c' ∧ wr.ownsRow w.heap.size 45 2 (.slice A' (but (l.take i) child).length c') (but (l.take i) child).length (flatG (but (l.take i) child)) ∧ Below w.heap.size w wr) (fun _ v6 _ => n - (intOf v6).toNat)
  case atStart => exact ⟨0, none, 0, by omega, rfl, rfl, World.ownsRow_nil _ _ _ _, Below.refl _ _⟩
  case round =>
    obtain ⟨i, A', c', hi, rfl, rfl, hown, hb⟩ := hrel
    have OWN := Troupe.hid hown
    have HB := Troupe.hid hb
    have hbl := but_le (l.take i) child
    rw [List.length_take] at hbl
    by_cases hlt : i < n
    · obtain ⟨x, hx⟩ : ∃ x, l[i]? = some x := ⟨_, List.getElem?_eq_getElem (by omega)⟩
      obtain ⟨q0, q1⟩ := flatG_at l i x hx
      obtain ⟨b, off, hA, _, h1⟩ := (C0.out.below hb).at_ (by intro e; have := congrArg List.length e; rw [flatG_length] at this; simp at this; omega)
      have c0 : wr.cell? ⟨b, off + i * 2, none⟩ = some (.int .i64 x.c) := h1 _ _ q0
      have c1 : wr.cell? ⟨b, off + i * 2 + 1, none⟩ = some (.int .i64 x.at_) := by rw [Nat.add_assoc]; exact h1 _ _ q1
      have hG := but_take l child i x hx
      have HG := Troupe.hid hG
      have hbs := hb.size
      subst hA
      clear h1 hx q0 q1 hG hown hb
      by_cases hcx : x.c = child
      · have e1 : (x.c != child) = false := by simp [hcx]
        have e2 : (x.c == child) = true := by simp [hcx]
        have hst : but (l.take (i + 1)) child = but (l.take i) child := by rw [HG.out, e1]; simp
        have ST := Troupe.hid hst
        clear hst hcx
        go_wp2_with fail
        go_roundw
        case rel => exact ⟨i + 1, A', c', by omega, by go_num, by rw [ST.out], by rw [ST.out]; exact OWN.out, HB.out⟩
        case measure => simp [intOf]; omega
      · have e1 : (x.c != child) = true := by simp [hcx]
        have e2 : (x.c == child) = false := by simp [hcx]
        have hst : but (l.take (i + 1)) child = but (l.take i) child ++ [x] := by rw [HG.out, e1]; rfl
        have ST := Troupe.hid hst
        clear hst hcx
        have F5 : Frm (fun _ => False) wr (wr.alloc (.cells #[.int .i64 x.c, .int .i64 x.at_] 45)) := (Frm.refl _ _).alloc _
        have OC5 := Troupe.hid (own_frm OWN.out F5 (fun k hk h => h))
        have B5 : Blk (wr.alloc (.cells #[.int .i64 x.c, .int .i64 x.at_] 45)) wr.heap.size 45 [.int .i64 x.c, .int .i64 x.at_] := Blk.new _ _ _
        have C5 := Troupe.hid B5.blk_cells
        have hs5 : (wr.alloc (.cells #[.int .i64 x.c, .int .i64 x.at_] 45)).heap.size = wr.heap.size + 1 := by simp
        have BS : Hid (w.heap.size ≤ (wr.alloc (.cells #[.int .i64 x.c, .int .i64 x.at_] 45)).heap.size) := by unfold Hid; omega
        have HB5 := Troupe.hid (HB.out.alloc hbs (.cells #[.int .i64 x.c, .int .i64 x.at_] 45))
        clear F5 B5
        go_wp2_with (at_builtin; refine wpList_app rfl (.tmp 20) (.tmp 25) 37 rfl w.heap.size 45 info45 Try.underlying37 rfl (by decide) (.slice A' (but (l.take i) child).length c') (but (l.take i) child).length (flatG (but (l.take i) child)) rfl OC5.out (wr.heap.size + 1) (some ⟨wr.heap.size, 0, none⟩) 1 1 [.int .i64 x.c, .int .i64 x.at_] rfl rfl C5.out (fun h => by cases h) (by simp [Value.oneCell']) (by omega) (by unfold maxLen; omega) BS.out ?_; intro v' w5 h'; have A5 := Troupe.hid h'; clear h')
        obtain ⟨A6, c6, hv6, -, -, -, -, -⟩ := own_form A5.out.own
        subst hv6
        go_roundw
        case rel =>
          refine ⟨i + 1, A6, c6, by omega, by go_num, by rw [ST.out]; simp, ?_, HB5.out.trans (A5.out.frm.below BS.out (fun k hk => (OC5.out.lt k hk).1))⟩
          rw [ST.out, flatG_app, List.length_append]
          exact A5.out.own
        case measure => simp [intOf]; omega
    · have hti : l.take i = l := List.take_of_length_le (by omega)
      rw [hti] at OWN
      simp only [hti]
      clear hown hb hti
      go_wp2_with fail
      go_ret
      exact ⟨A', c', rfl, OWN.out, HB.out⟩
end Go.Proofs.Ytodkennpgfmenaa
