/- slices.Backward's iterator, by contract. -/
import Derived.RangeFuncBox
import Derived.RangeFuncLeaves
import Derived.Shelf.Abstract
import Derived.OwnWalkIn
import Derived.TacticsInMore
import Derived.LoopNIn
import Derived.LoopIn
import Derived.IntWalk
import Derived.Test.YtmbpilhngniigaaStash
import Derived.Test.YtmbpilhngniigaaBack
namespace Go.Proofs.Ytmbpilhngniigaa
open Go.RowKit Go.Maps Go.Troupe Go.Shelf
attribute [local go_sem] Oper.semAt_some

/-- What has come when k rounds are over, the last one first. -/
def bk (zs : List Int) (k : Nat) : List (Int × Int) := (List.range k).map fun (j : Nat) => ((zs.length : Int) - 1 - (j : Int), zs[zs.length - 1 - j]?.getD 0)
theorem bk_succ (zs : List Int) (k : Nat) : bk zs (k + 1) = bk zs k ++ [((zs.length : Int) - 1 - k, zs[zs.length - 1 - k]?.getD 0)] := by simp [bk, List.range_succ]
theorem bk_length (zs : List Int) (k : Nat) : (bk zs k).length = k := by simp [bk]
theorem bk_all (zs : List Int) : (bk zs zs.length).map Prod.snd = zs.reverse := by
  apply List.ext_getElem
  · simp [bk]
  · intro i h1 h2
    have hi : i < zs.length := by simpa using h2
    have hj : zs.length - 1 - i < zs.length := by omega
    simp [bk, hj]

set_option maxRecDepth 100000 in
set_option maxHeartbeats 2000000 in
theorem back1_in (F : Fence) (n : Nat) (h26 : F.fn 26) (hro : F.round = none) (hn : 1 ≤ n) (l Bs : Nat) (T : Nat → Prop) (hTB : ¬ T Bs) (A : Option Addr) (len cap : Nat) (zs : List Int) (hl : zs.length = len) (hreach : len ≤ 1000000)
    (J Jx : List (Int × Int) → World → Prop)
    (hY : ∀ pre x W, J pre W → pre.length < len → YieldAt F (n - 1) Try.prog l #[.int .i64 x.1, .int .u64 x.2] W fun e W' =>
      (e = .returned (.bool true) ∧ J (pre ++ [x]) W' ∧ Frm T W W') ∨ (e = .returned (.bool false) ∧ Jx (pre ++ [x]) W'))
    (W : World) (hBs : Blk W Bs 22 [.slice A len cap]) (hc : 0 < len → ∃ b, A = some ⟨b, 0, none⟩ ∧ b < W.heap.size ∧ ¬ T b ∧ ∀ j, j < len → W.cell? ⟨b, j, none⟩ = some (.int .u64 (zs[j]?.getD 0))) (h0 : J [] W) :
    CallsIn F n Try.prog 26 #[.func (.yield l) #[] #[], .pointer (some ⟨Bs, 0, none⟩)] W fun e W' => (∃ v, e = .returned v) ∧
      ((∃ ys, ys = bk zs len ∧ J ys W') ∨ (∃ pre, (∃ k, k ≤ len ∧ pre = bk zs k) ∧ Jx pre W')) := by
  have hc0 : W.cell? ⟨Bs, 0, none⟩ = some (.slice A len cap) := hBs.cell 0
  have w0 : wrap64 ((len : Int) - 1) = (len : Int) - 1 := IntWalk.wrap64_in _ (by omega)
  have HB := Troupe.hid hBs
  have HC := Troupe.hid hc
  clear hBs hc
  refine callsIn_of_wp Try.func26 rfl h26 ?_ hro
  simp only [Try.ntmps26, List.size_toArray, List.length_cons, List.length_nil, Nat.reduceAdd, Nat.reduceSub, Array.replicate_succ, Array.replicate_zero, List.push_toArray, List.append_toArray, List.nil_append, List.cons_append]
  gi_wp2
  gi_loopw [3] (fun i wr => ∃ k : Nat, k ≤ len ∧ i = .int .i64 ((len : Int) - 1 - k) ∧ J (bk zs k) wr ∧ Frm T W wr)
    (fun i _ => (intOf i + 1).toNat)
  case atStart => exact ⟨0, Nat.zero_le _, by simp, by simpa [bk] using h0, Frm.refl _ _⟩
  case round =>
    obtain ⟨k, hk, rfl, hJs, hnx⟩ := hrel
    have hcb : wr.cell? ⟨Bs, 0, none⟩ = some (.slice A len cap) := (HB.out.frm hnx hTB).cell 0
    by_cases hlt : k < len
    · obtain ⟨b, rfl, hbl, hTb, hcs⟩ := HC.out (by omega)
      obtain ⟨j, hj⟩ : ∃ j : Nat, len = k + 1 + j := ⟨len - (k + 1), by omega⟩
      have ej : (len : Int) - 1 - k = (j : Int) := by omega
      have hjl : j < len := by omega
      have ej2 : zs.length - 1 - k = j := by omega
      have w1 : wrap64 ((j : Int) - 1) = (j : Int) - 1 := IntWalk.wrap64_in _ (by omega)
      rw [ej]
      obtain ⟨v, hv⟩ : ∃ v, zs[j]?.getD 0 = v := ⟨_, rfl⟩
      have hcx : wr.cell? ⟨b, j, none⟩ = some (.int .u64 v) := by rw [← hv]; exact (hnx.cell (p := ⟨b, j, none⟩) hbl hTb).trans (hcs j hjl)
      obtain ⟨fn, tmps, assign, body, hy, hR⟩ := hY _ ((j : Int), v) wr hJs (by rw [bk_length]; exact hlt)
      dsimp only at hy
      have HJ := Troupe.hid hJs
      have HX := Troupe.hid hnx
      have HE := Troupe.hid (And.intro hj (And.intro ej ej2))
      have HV := Troupe.hid hv
      clear hJs hnx hj ej ej2 hv
      gi_wp2
      refine hR.mono ?_
      rintro e W3 (⟨rfl, hJ3, hk3⟩ | ⟨rfl, hJx3⟩)
      · gi_wp2
        go_roundw
        case rel =>
          obtain ⟨hj, ej, ej2⟩ := HE.out
          exact ⟨k + 1, by omega, by simp; omega, by rw [bk_succ, ej2, hl, ej, HV.out]; exact hJ3, HX.out.trans hk3 (fun _ _ h => h)⟩
        case measure => simp [intOf]
      · gi_wp2
        refine bodyPost_ret (results_none rfl _ _ _) rfl ?_
        obtain ⟨hj, ej, ej2⟩ := HE.out
        exact ⟨⟨_, rfl⟩, .inr ⟨_, ⟨k + 1, by omega, by rw [bk_succ, ej2, hl, ej, HV.out]⟩, hJx3⟩⟩
    · obtain rfl : k = len := by omega
      have ek : (k : Int) - 1 - k = -1 := by omega
      rw [ek]
      gi_wp2
      go_end0
      exact ⟨⟨_, rfl⟩, .inl ⟨_, rfl, hJs⟩⟩
end Go.Proofs.Ytmbpilhngniigaa
