/- The line's Next where something stands in front. -/
import Derived.Test.YtmbpilhngniigaaStash
namespace Go.Proofs.Ytmbpilhngniigaa
open Go.RowKit Go.Maps Go.Troupe

set_option maxRecDepth 100000 in
set_option maxHeartbeats 400000 in
theorem next_some {p : Nat} {S : Nat → Prop} {R : Nat} {As Fr : List Int} (a : Int) (w : World) (h : Line w p S R As (Fr ++ [a])) (hn : Fr.length ≤ 1000000) :
    Calls Try.prog 12 #[.pointer (some ⟨p, 0, none⟩)] w (Nexted p S R As Fr a true w) := by
  obtain ⟨va, vf, h1, h2, h3, h4, h5, h6⟩ := h.ex
  have hlen : (Fr ++ [a]).length = Fr.length + 1 := by simp
  rw [hlen] at h3
  obtain ⟨A, cap, rfl, -⟩ := own_form h3
  rcases own_blk h3 with ⟨-, h0, -⟩ | ⟨g, cs, rfl, hbk, hcl, hbg, hqc, hcm, htk⟩
  · omega
  have c1 : w.cell? ⟨p, 2, none⟩ = some (.slice (some ⟨g, 0, none⟩) (Fr.length + 1) cap) := h1.cell 2
  have f1 := h1.frozen
  have e : words (Fr ++ [a]) = words Fr ++ [.int .u64 a] := by simp [words]
  have ca : w.cell? ⟨g, Fr.length, none⟩ = some (.int .u64 a) := by
    rw [hbk.cell]
    have : (cs.take ((Fr.length + 1) * 1))[Fr.length]? = some (.int .u64 a) := by
      rw [htk, e, List.getElem?_append_right (by simp [words])]; simp [words]
    rwa [List.getElem?_take, if_pos (by omega)] at this
  have OF : Hid (w.ownsRow 0 28 1 (.slice (some ⟨g, 0, none⟩) Fr.length cap) Fr.length (words Fr)) := by
    have h := blk_own (n := Fr.length) hbk hcl (Nat.zero_le g) (by omega) hcm
    have e2 : cs.take (Fr.length * 1) = words Fr := by
      have : cs.take (Fr.length * 1) = (cs.take ((Fr.length + 1) * 1)).take Fr.length := by rw [List.take_take]; congr 1; omega
      rw [this, htk, e, List.take_append_of_le_length (by simp [words]), List.take_of_length_le (by simp [words])]
    rw [e2] at h
    exact h
  have H := Troupe.hid h
  have K := Troupe.hid h1
  have H2 := Troupe.hid h2
  have H4 := Troupe.hid h4
  have H5 := Troupe.hid h5
  have H6 := Troupe.hid h6
  have HBK := Troupe.hid hbk
  have hgp : g ≠ p := hbk.ne h1 (by decide)
  have hwr : IntKind.i64.wrap (((Fr.length + 1 : Nat) : Int) - 1) = (Fr.length : Int) := by rw [IntWalk.i64_in _ (by omega)]; omega
  have hwr2 : IntKind.i64.wrap ((Fr.length : Int) + 1 - 1) = (Fr.length : Int) := by rw [IntWalk.i64_in _ (by omega)]; omega
  have hz : (((Fr.length : Int) + 1) == 0) = false := by rw [beq_eq_false_iff_ne]; omega
  clear h h1 h2 h3 h4 h5 h6 hbk hcl htk e hlen
  go_enter Try.func12, Try.ntmps12
  go_wp2_with fail
  go_ret2
  have F : Frm (fun k => k = p) w (w.setCell ⟨p, 2, none⟩ (.slice (some ⟨g, 0, none⟩) Fr.length cap)) := Frm.one w ⟨p, 2, none⟩ _
  have hs : (w.setCell ⟨p, 2, none⟩ (.slice (some ⟨g, 0, none⟩) Fr.length cap)).heap.size = w.heap.size := by simp [World.setCell]
  refine ⟨rfl, S, ⟨⟨va, _, K.out.set_ 2 _, own_frm H2.out F (fun b hb h => ?_), own_frm OF.out F (fun b hb h => ?_), ?_, ?_, ?_⟩, H.out.sS, H.out.hR⟩, fun _ h => .inl h, F.mono (fun k _ h => h ▸ H.out.sS)⟩
  · obtain ⟨cs, hbk⟩ := own_at H2.out hb
    exact hbk.ne K.out (by decide) h
  · simp [Value.ownBlock] at hb
    exact hgp (hb.trans h)
  · intro b hb hb2
    exact H4.out b hb (by simpa [Value.ownBlock] using hb2)
  · intro b hb; have := H5.out b hb; exact ⟨this.1, by omega⟩
  · intro b hb; have := H6.out b (by simpa [Value.ownBlock] using hb); exact ⟨this.1, by omega⟩
end Go.Proofs.Ytmbpilhngniigaa
