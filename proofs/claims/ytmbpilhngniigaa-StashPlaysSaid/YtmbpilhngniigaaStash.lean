/- The line's Stash and Next by contracts. -/
import Derived.Test.YtmbpilhngniigaaLine
namespace Go.Proofs.Ytmbpilhngniigaa
open Go.RowKit Go.Maps Go.Troupe

/-- What a call that changes the line leaves. -/
def Left (p : Nat) (S : Nat → Prop) (R : Nat) (As Fr : List Int) (w w' : World) : Prop :=
  ∃ S', Line w' p S' R As Fr ∧ (∀ k, S' k → S k ∨ (w.heap.size ≤ k ∧ k < w'.heap.size)) ∧ Frm S w w'
def Full (p : Nat) (S : Nat → Prop) (R : Nat) (As Fr : List Int) (r : Int) (w : World) (e : Ending) (w' : World) : Prop := e = .returned (.int .i64 r) ∧ Left p S R As Fr w w'
set_option maxRecDepth 100000 in
theorem stash_full {p : Nat} {S : Nat → Prop} {R : Nat} {As Fr : List Int} (id : Int) (w : World) (h : Line w p S R As Fr) (hn : R ≤ As.length) :
    Calls Try.prog 10 #[.pointer (some ⟨p, 0, none⟩), .int .u64 id] w (Full p S R As Fr 4 w) := by
  obtain ⟨va, vf, h1, h2, h3, h4, h5, h6⟩ := h.ex
  obtain ⟨A, cap, rfl, -⟩ := own_form h2
  have H := Troupe.hid h
  have K := Troupe.hid h1
  clear h h1 h2 h3 h4 h5 h6
  go_enter Try.func10, Try.ntmps10
  go_wp2_with fail
  refine region_still (by kernel_rfl) (by kernel_rfl) ?_
  intro w2 hh hf
  have c0 : w2.cell? ⟨p, 0, none⟩ = some (.int .i64 R) := (K.out.heap hh).cell 0
  have c1 : w2.cell? ⟨p, 1, none⟩ = some (.slice A As.length cap) := (K.out.heap hh).cell 1
  have F := Troupe.hid hf
  clear hh hf
  repeat still_step
  refine wpStill_nil ?_
  go_wp2_with fail
  go_ret
  exact ⟨rfl, S, H.out.frm F.out (fun _ _ h => h.elim), fun _ h => .inl h, F.out.mono (fun _ _ h => h.elim)⟩
set_option maxRecDepth 100000 in
set_option maxHeartbeats 400000 in
theorem stash_ok {p : Nat} {S : Nat → Prop} {R : Nat} {As Fr : List Int} (id : Int) (w : World) (h : Line w p S R As Fr) (hn : As.length < R) :
    Calls Try.prog 10 #[.pointer (some ⟨p, 0, none⟩), .int .u64 id] w (Full p S R (As ++ [id]) Fr 0 w) := by
  have hR := h.hR
  have hn' : ¬ R ≤ As.length := by omega
  obtain ⟨va, vf, h1, h2, h3, h4, h5, h6⟩ := h.ex
  obtain ⟨A, cap, rfl, -⟩ := own_form h2
  have H := Troupe.hid h
  have K := Troupe.hid h1
  have H2 := Troupe.hid h2
  have H3 := Troupe.hid h3
  have H4 := Troupe.hid h4
  have H5 := Troupe.hid h5
  have H6 := Troupe.hid h6
  have NP : Hid (¬ (Value.slice A As.length cap).ownBlock = some p) := fun e => by
    obtain ⟨cs, hb⟩ := own_at h2 e
    exact hb.ne h1 (by decide) rfl
  clear h h1 h2 h3 h4 h5 h6
  go_enter Try.func10, Try.ntmps10
  go_wp2_with fail
  refine region_still (by kernel_rfl) (by kernel_rfl) ?_
  intro w2 hh hf
  have k2 := K.out.heap hh
  have c0 : w2.cell? ⟨p, 0, none⟩ = some (.int .i64 R) := k2.cell 0
  have c1 : w2.cell? ⟨p, 1, none⟩ = some (.slice A As.length cap) := k2.cell 1
  have F := Troupe.hid hf
  have K2 := Troupe.hid k2
  clear hh hf k2
  repeat still_step
  refine wpStill_nil ?_
  have F3 : Frm (fun _ => False) w (w2.alloc (.cells #[.int .u64 id] 28)) := F.out.alloc _
  have OC3 := Troupe.hid (own_frm H2.out F3 (fun _ _ h => h))
  have B3 : Blk (w2.alloc (.cells #[.int .u64 id] 28)) w2.heap.size 28 [.int .u64 id] := Blk.new _ _ _
  have C3 := Troupe.hid B3.blk_cells
  have K3 := Troupe.hid (K2.out.alloc (.cells #[.int .u64 id] 28))
  have FR3 := Troupe.hid F3
  have hs3 : (w2.alloc (.cells #[.int .u64 id] 28)).heap.size = w2.heap.size + 1 := by simp
  have HS := F.out.size
  clear F3 B3
  go_wp2_with (at_builtin; refine wpList_app rfl (.tmp 19) (.tmp 21) 22 rfl 0 28 info28 Try.underlying22 rfl (by decide) (.slice A As.length cap) As.length (words As) rfl OC3.out (w2.heap.size + 1) (some ⟨w2.heap.size, 0, none⟩) 1 1 [.int .u64 id] rfl rfl C3.out (fun h => by cases h) (by simp [Value.oneCell']) (by omega) (by unfold maxLen; omega) (Nat.zero_le _) ?_; intro v0 w4 h'; obtain ⟨A', cap', rfl, -⟩ := own_form h'.own; have e4 := (K3.out.frm h'.frm NP.out).cell; have A4 := Troupe.hid h'; have k4 := K3.out.frm h'.frm NP.out; have f4 := k4.frozen; have K4 := Troupe.hid k4; clear h' c0 c1 k4)
  go_ret
  have hs4 := A4.out.frm.size
  have hs5 : (w4.setCell ⟨p, 1, none⟩ (Value.slice A' (As.length + 1) cap')).heap.size = w4.heap.size := by simp [World.setCell]
  have hv4 : ∀ b, (Value.slice A' (As.length + 1) cap').ownBlock = some b → b < w4.heap.size ∧ b ≠ p := fun b hb => by
    obtain ⟨cs, hbk⟩ := own_at A4.out.own hb
    exact ⟨hbk.lt, fun e => hbk.ne K4.out (by decide) e⟩
  have hvS : ∀ b, (Value.slice A' (As.length + 1) cap').ownBlock = some b → (Value.slice A As.length cap).ownBlock = some b ∨ w.heap.size ≤ b := fun b hb => by
    rcases A4.out.at_ with e | e
    · exact .inl (e ▸ hb)
    · rw [e] at hb; cases hb; exact .inr (by omega)
  have FF : Frm (fun k => (Value.slice A As.length cap).ownBlock = some k ∨ k = p) w (w4.setCell ⟨p, 1, none⟩ (Value.slice A' (As.length + 1) cap')) :=
    ((FR3.out.mono (S' := fun k => (Value.slice A As.length cap).ownBlock = some k) (fun _ _ h => h.elim)).trans A4.out.frm (fun _ _ h => h)).and_then (Frm.one w4 ⟨p, 1, none⟩ (Value.slice A' (As.length + 1) cap'))
  refine ⟨rfl, fun k => S k ∨ (w.heap.size ≤ k ∧ k < (w4.setCell ⟨p, 1, none⟩ (Value.slice A' (As.length + 1) cap')).heap.size), ⟨⟨(Value.slice A' (As.length + 1) cap'), vf, K4.out.set_ 1 (Value.slice A' (As.length + 1) cap'), ?_, ?_, ?_, ?_, ?_⟩, .inl H.out.sS, hR⟩, fun _ h => h, ?_⟩
  · have := own_frm A4.out.own (Frm.one w4 ⟨p, 1, none⟩ (Value.slice A' (As.length + 1) cap')) (fun b hb => (hv4 b hb).2)
    rw [List.length_append]
    have e : words (As ++ [id]) = words As ++ [.int .u64 id] := by simp [words]
    rw [e]; exact this
  · refine own_frm H3.out FF (fun b hb h => ?_)
    rcases h with h | h
    · exact H4.out b h hb
    · obtain ⟨cs, hbk⟩ := own_at H3.out hb
      exact hbk.ne K.out (by decide) h
  · intro b hb hb2
    rcases hvS b hb with h | h
    · exact H4.out b h hb2
    · have := (H6.out b hb2).2; omega
  · intro b hb
    have := (hv4 b hb).1
    rcases hvS b hb with h | h
    · exact ⟨.inl (H5.out b h).1, by omega⟩
    · exact ⟨.inr ⟨h, by omega⟩, by omega⟩
  · intro b hb
    have := H6.out b hb
    exact ⟨.inl this.1, by omega⟩
  · refine FF.mono (fun k hk h => ?_)
    rcases h with h | h
    · exact (H5.out k h).1
    · rw [h]; exact H.out.sS

def Nexted (p : Nat) (S : Nat → Prop) (R : Nat) (As Fr : List Int) (a : Int) (ok : Bool) (w : World) (e : Ending) (w' : World) : Prop := e = .returned (.tuple #[.int .u64 a, .bool ok]) ∧ Left p S R As Fr w w'
set_option maxRecDepth 100000 in
theorem next_none {p : Nat} {S : Nat → Prop} {R : Nat} {As : List Int} (w : World) (h : Line w p S R As []) :
    Calls Try.prog 12 #[.pointer (some ⟨p, 0, none⟩)] w (Nexted p S R As [] 0 false w) := by
  obtain ⟨va, vf, h1, h2, h3, h4, h5, h6⟩ := h.ex
  obtain ⟨A, cap, rfl, -⟩ := own_form h3
  have c1 : w.cell? ⟨p, 2, none⟩ = some (.slice A 0 cap) := h1.cell 2
  have H := Troupe.hid h
  clear h h1 h2 h3 h4 h5 h6
  go_enter Try.func12, Try.ntmps12
  go_wp2_with fail
  go_ret2
  exact ⟨rfl, S, H.out, fun _ h => .inl h, Frm.refl _ _⟩
end Go.Proofs.Ytmbpilhngniigaa
