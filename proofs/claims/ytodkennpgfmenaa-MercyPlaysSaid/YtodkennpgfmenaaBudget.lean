/- The budget: how it lies in memory, and its functions by contracts. -/
import Derived.Test.YtodkennpgfmenaaInts
namespace Go.Proofs.Ytodkennpgfmenaa
open Go.RowKit Go.Maps Go.Troupe

theorem zero32 (w : World) : (zeroValue 32).run Try.prog w = .ok (.slice none 0 0) w := by kernel_rfl

def clamp (n lo hi : Int) : Int := if n < lo then lo else if n > hi then hi else n
theorem tick_any (n : Int) (w : World) : Calls Try.prog 20 #[.int .i64 n] w fun e w' => e = .returned (.int .i64 (clamp n 0 1099511627776)) ∧ w = w' := by
  go_enter Try.func20, Try.ntmps20
  go_wp2
  all_goals go_ret
  all_goals refine ⟨?_, rfl⟩
  all_goals show Ending.returned (Value.int .i64 _) = Ending.returned (Value.int .i64 _)
  all_goals congr 2
  all_goals unfold clamp
  all_goals split <;> (try split) <;> omega
theorem closure_any (t N W : Int) (bn bb p : Nat) (w : World) (h1 : Blk w bn 3 [.int .i64 N]) (h2 : Blk w bb 30 [.pointer (some ⟨p, 0, none⟩)]) {x y : Value} (h3 : Blk w p 56 [x, .int .i64 W, y])
    (hN : 0 ≤ N ∧ N ≤ 1099511627776) (hW : 1 ≤ W ∧ W ≤ 4095) :
    Calls Try.prog 23 #[.int .i64 t, .pointer (some ⟨bn, 0, none⟩), .pointer (some ⟨bb, 0, none⟩)] w fun e w' => e = .returned (.bool (decide (t ≤ N - W))) ∧ Below w.heap.size w w' := by
  go_enter Try.func23, Try.ntmps23
  go_wp2_with fail
  refine region_still (by kernel_rfl) (by kernel_rfl) ?_
  intro w' hh hf
  have hwr : IntKind.i64.wrap (N - W) = N - W := IntWalk.i64_in _ (by omega)
  have c1 : w'.cell? ⟨bn, 0, none⟩ = some (.int .i64 N) := (h1.heap hh).cell 0
  have c2 : w'.cell? ⟨bb, 0, none⟩ = some (.pointer (some ⟨p, 0, none⟩)) := (h2.heap hh).cell 0
  have c3 : w'.cell? ⟨p, 1, none⟩ = some (.int .i64 W) := (h3.heap hh).cell 1
  have B := Troupe.hid (hf.below (B := w.heap.size) (Nat.le_refl _) (fun _ h => h.elim))
  clear hh hf h1 h2 h3
  repeat still_step
  refine wpStill_nil ?_
  go_wp2_with fail
  go_ret
  exact ⟨rfl, B.out⟩

def nilS : Value := .slice none 0 0
/-- A budget: its struct at p, its map at m; all its blocks are of S; what each child was given. -/
structure Budget (w : World) (p m : Nat) (S : Nat → Prop) (L W : Int) (G : Int → List Int) : Prop where
  sp : Blk w p 56 [.int .i64 L, .int .i64 W, .map (some m)]
  mp : ∃ n g, IMap w m .i64 n g ∧ (∀ k, w.ownsRow 0 3 1 ((g k).getD nilS) (G k).length ((G k).map (Value.int .i64))) ∧
    (∀ j k, j ≠ k → ∀ b, ((g j).getD nilS).ownBlock = some b → ((g k).getD nilS).ownBlock ≠ some b) ∧ (∀ k b, ((g k).getD nilS).ownBlock = some b → S b ∧ b < w.heap.size)
  sS : S p ∧ S m
  hL : 0 ≤ L ∧ L ≤ 100
  hW : 1 ≤ W ∧ W ≤ 4095

theorem Budget.frm {w w' : World} {p m : Nat} {S R : Nat → Prop} {L W : Int} {G : Int → List Int} (h : Budget w p m S L W G) (hf : Frm R w w') (hR : ∀ k, k < w.heap.size → R k → ¬ S k) : Budget w' p m S L W G := by
  obtain ⟨n, g, h1, h2, h3, h4⟩ := h.mp
  exact ⟨h.sp.frm hf (fun hk => hR _ h.sp.lt hk h.sS.1), ⟨n, g, h1.frm hf (fun hk => hR _ h1.lt hk h.sS.2),
    fun k => own_frm (h2 k) hf (fun b hb hk => hR _ (h4 k b hb).2 hk (h4 k b hb).1), h3, fun k b hb => ⟨(h4 k b hb).1, Nat.lt_of_lt_of_le (h4 k b hb).2 hf.size⟩⟩, h.sS, h.hL, h.hW⟩
theorem Budget.below {w w' : World} {p m : Nat} {S : Nat → Prop} {L W : Int} {G : Int → List Int} (h : Budget w p m S L W G) (hf : Below w.heap.size w w') : Budget w' p m S L W G :=
  h.frm (Frm.of_below hf) (fun k hk hn => absurd hk (by omega))

theorem budget_of (w : World) {x y L W : Int} (hx : x = L) (hy : y = W) (hL : 0 ≤ L ∧ L ≤ 100) (hW : 1 ≤ W ∧ W ≤ 4095) :
    Budget ((w.alloc (.map #[] 0)).alloc (.cells #[.int .i64 x, .int .i64 y, .map (some w.heap.size)] 56)) (w.heap.size + 1) w.heap.size
      (fun k => w.heap.size ≤ k ∧ k < ((w.alloc (.map #[] 0)).alloc (.cells #[.int .i64 x, .int .i64 y, .map (some w.heap.size)] 56)).heap.size) L W (fun _ => []) := by
  subst hx hy
  refine ⟨by simpa using Blk.new (w.alloc (.map #[] 0)) 56 [.int .i64 x, .int .i64 y, .map (some w.heap.size)], ⟨0, fun _ => none, (IMap.made w .i64).alloc _, fun _ => World.ownsRow_nil _ _ _ _, ?_, ?_⟩, ?_, hL, hW⟩
  · intro j k _ b hb; simp [nilS, Value.ownBlock] at hb
  · intro k b hb; simp [nilS, Value.ownBlock] at hb
  · simp; omega
def IsNew (l i : Int) (w : World) (e : Ending) (w' : World) : Prop :=
  ∃ p m, e = .returned (.pointer (some ⟨p, 0, none⟩)) ∧ Budget w' p m (fun k => w.heap.size ≤ k ∧ k < w'.heap.size) (clamp l 0 100) (clamp i 1 4095) (fun _ => []) ∧ Below w.heap.size w w'
theorem new_any (l i : Int) (w : World) : Calls Try.prog 11 #[.int .i64 l, .int .i64 i] w (IsNew l i w) := by
  have hmm := @run_makeMap Try.prog
  go_enter Try.func11, Try.ntmps11
  go_wp2
  all_goals go_ret
  all_goals refine ⟨_, _, rfl, budget_of w ?_ ?_ (by unfold clamp; split <;> (try split) <;> omega) (by unfold clamp; split <;> (try split) <;> omega), ((Below.refl _ _).alloc (Nat.le_refl _) _).alloc (by simp) _⟩
  all_goals unfold clamp
  all_goals split <;> (try split) <;> omega
theorem cells_one (w : World) (t : TypeId) (u : Value) : Blk (w.alloc (.cells #[u] t)) w.heap.size t [u] := Blk.new w t [u]
def spent (l : List Int) (N W : Int) : Nat := (l.filter fun t => !decide (t ≤ N - W)).length
def leftOf (L : Int) (l : List Int) (N W : Int) : Int := if L - spent l N W < 0 then 0 else L - spent l N W
set_option maxRecDepth 100000 in
set_option maxHeartbeats 400000 in
theorem left_any {p m : Nat} {S : Nat → Prop} {L W : Int} {G : Int → List Int} (child now : Int) (w : World) (h : Budget w p m S L W G) (hn : (G child).length ≤ 1000000) :
    Calls Try.prog 13 #[.pointer (some ⟨p, 0, none⟩), .int .i64 child, .int .i64 now] w fun e w' => e = .returned (.int .i64 (leftOf L (G child) (clamp now 0 1099511627776) W)) ∧ Below w.heap.size w w' := by
  have hW := h.hW
  have hL := h.hL
  have hN : 0 ≤ clamp now 0 1099511627776 ∧ clamp now 0 1099511627776 ≤ 1099511627776 := by unfold clamp; split <;> (try split) <;> omega
  have TK := Troupe.hid (tick_any now)
  generalize clamp now 0 1099511627776 = N at *
  obtain ⟨n, g, h1, h2, h3, h4⟩ := h.mp
  have M := Troupe.hid h1
  have OW := Troupe.hid (h2 child)
  have hp := h.sp.lt
  have SP := Troupe.hid h.sp
  clear h h1 h2 h3 h4
  go_enter Try.func13, Try.ntmps13
  go_wp2_with fail
  refine (TK.out _).mono ?_
  rintro e w1 ⟨rfl, rfl⟩
  obtain ⟨A, cap, hv, hle, hcm, hc, hnil, hsm⟩ := own_form OW.out
  have VAL : Hid ((g child).getD (.slice none 0 0) = .slice A (G child).length cap) := hv
  have C0 := Troupe.hid hc
  have NIL := Troupe.hid hnil
  obtain ⟨w2, hw2⟩ : ∃ x, x = (w.alloc (.cells #[.pointer (some ⟨p, 0, none⟩)] 30)).alloc (.cells #[.int .i64 now] 3) := ⟨_, rfl⟩
  rw [← hw2]
  have b1 : Blk w2 w.heap.size 30 [.pointer (some ⟨p, 0, none⟩)] := by rw [hw2]; exact (cells_one w 30 _).alloc _
  have b2 : Blk w2 (w.heap.size + 1) 3 [.int .i64 now] := by rw [hw2]; simpa using cells_one (w.alloc (.cells #[.pointer (some ⟨p, 0, none⟩)] 30)) 3 (.int .i64 now)
  have hb2 : Below w.heap.size w w2 := by rw [hw2]; exact ((Below.refl _ _).alloc (Nat.le_refl _) _).alloc (by simp) _
  have hs2 : w2.heap.size = w.heap.size + 2 := by rw [hw2]; simp
  clear hw2 hc hnil hsm hv
  have c1 : w2.cell? ⟨w.heap.size, 0, none⟩ = some (.pointer (some ⟨p, 0, none⟩)) := b1.cell 0
  have c2 : w2.cell? ⟨w.heap.size + 1, 0, none⟩ = some (.int .i64 now) := b2.cell 0
  have f2 := b2.frozen 0
  have sp2 := SP.out.below hb2 hp
  have c3 : w2.cell? ⟨p, 2, none⟩ = some (.map (some m)) := sp2.cell 2
  have hb3 : Below w.heap.size w (w2.setCell ⟨w.heap.size + 1, 0, none⟩ (.int .i64 N)) := hb2.setCell (by simp) _
  have B3 := Troupe.hid hb3
  have K1 := Troupe.hid (b1.far (p := ⟨w.heap.size + 1, 0, none⟩) (by simp) (.int .i64 N))
  have K2 : Hid (Blk _ _ 3 [.int .i64 N]) := b2.set_ 0 (.int .i64 N)
  have hs3 : (w2.setCell ⟨w.heap.size + 1, 0, none⟩ (.int .i64 N)).heap.size = w.heap.size + 2 := by simp [World.setCell, hs2]
  clear b1 b2 hb2 sp2 hb3
  go_wp2_with (at_lookup; refine wpList_look rfl _ _ 54 rfl 3 32 Try.underlying54 Try.underlying3 _ (zero32 _) rfl (M.out.frm (Frm.of_below B3.out) (fun h => by have := M.out.lt; omega)) _ rfl ?_; rw [VAL.out])
  refine (clone_any A _ cap w.heap.size (G child) _ rfl (by omega) (C0.out.below B3.out) NIL.out).mono ?_
  clear c1 c2 c3 f2
  generalize w2.setCell ⟨w.heap.size + 1, 0, none⟩ (.int .i64 N) = w3 at *
  rintro e w4 ⟨v, rfl, hown, hb4⟩
  obtain ⟨A', cap', rfl, hle', hcm', -, -, hsm'⟩ := own_form hown
  have OW4 := Troupe.hid hown
  have B4 := Troupe.hid (B3.out.trans (hb4.mono (by omega)))
  have K1' := Troupe.hid (K1.out.below hb4 (by omega))
  have K2' := Troupe.hid (K2.out.below hb4 (by omega))
  have SP4 := Troupe.hid (SP.out.below B4.out hp)
  have SM := Troupe.hid hsm'
  have hs4 := hb4.size
  clear hown hb4 hsm'
  go_wp2_with fail
  refine (deleteFunc_any (w.heap.size + 1) w.heap.size A' _ cap' w3.heap.size (G child) (fun t => decide (t ≤ N - W)) w4 rfl (by omega) OW4.out (fun t w' hf => ?_)).mono ?_
  · have hno : ∀ k, k < w3.heap.size → ¬ (Value.slice A' (G child).length cap').ownBlock = some k := fun k hk he => by have := OW4.out.lt k he; omega
    exact closure_any t N W _ _ p w' (K2'.out.frm hf (hno _ (by omega))) (K1'.out.frm hf (hno _ (by omega))) (SP4.out.frm hf (hno _ (by omega))) hN hW
  · rintro e w5 ⟨rfl, -, hf5⟩
    have hno : ∀ k, k < w3.heap.size → ¬ (Value.slice A' (G child).length cap').ownBlock = some k := fun k hk he => by have := OW4.out.lt k he; omega
    have c1 : w5.cell? ⟨w.heap.size, 0, none⟩ = some (.pointer (some ⟨p, 0, none⟩)) := (K1'.out.frm hf5 (hno _ (by omega))).cell 0
    have c2 : w5.cell? ⟨p, 0, none⟩ = some (.int .i64 L) := (SP4.out.frm hf5 (hno _ (by omega))).cell 0
    have hle := keep_le (G child) (fun t => decide (t ≤ N - W))
    have FIN : Hid (leftOf L (G child) N W = if L - ((keep (G child) (fun t => decide (t ≤ N - W))).length : Int) < 0 then 0 else L - ((keep (G child) (fun t => decide (t ≤ N - W))).length : Int)) := rfl
    have B5 := Troupe.hid (B4.out.trans (Frm.below hf5 (by omega) (fun k hk => by have := OW4.out.lt k hk; omega)))
    generalize (keep (G child) (fun t => decide (t ≤ N - W))).length = q at *
    have hwr : IntKind.i64.wrap (L - (q : Int)) = L - (q : Int) := IntWalk.i64_in _ (by omega)
    clear hf5 hno
    go_wp2_with fail
    all_goals go_ret
    all_goals refine ⟨?_, B5.out⟩
    all_goals rw [FIN.out]
    all_goals show Ending.returned (Value.int .i64 _) = Ending.returned (Value.int .i64 _)
    all_goals congr 2
    all_goals split <;> omega
end Go.Proofs.Ytodkennpgfmenaa
