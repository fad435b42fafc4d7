/- The line's Clear by contract. -/
import Derived.Test.YtmbpilhngniigaaNext
import Derived.Deep.RegionHeld3
namespace Go.Proofs.Ytmbpilhngniigaa
open Go.RowKit Go.Maps Go.Troupe

theorem step_app {P : Program} {w : World} {ops : Array Oper} {o : Oper} {a : Act} {K : Act → World → Prop} {Q : Exit → Act → World → Prop} {E : Prop} (hgd : o.guard = none) (s x : Operand) (t : TypeId)
    (ho : o.op = .call { callee := .builtin .append, args := #[s, x], argTypes := #[t, t] })
    (base : Nat) (e : TypeId) {z : Value} {size bytes : Nat} (hinfo : (P.info? e).map (fun i => (i.zero, i.size, i.bytes)) = some (some z, size, bytes)) (ht : P.underlying t = some (.slice e))
    (hzs : z.cells.size = size) (hsz : 0 < size) (v : Value) (n : Nat) (xs : List Value) (hs : a.eval s = v) (hown : w.ownsRow base e size v n xs)
    (B : Nat) (A : Option Addr) (m c : Nat) (news : List Value) (hx : a.eval x = .slice A m c) (hl : news.length = m * size) (hc : Cells w B A news) (hA : A = none → c = 0) (h1 : ∀ u ∈ news, u.oneCell' = true)
    (hb : (n + m) * bytes ≤ 140737488355328) (hm : n + m ≤ maxLen) (hbase : base ≤ w.heap.size)
    (h : ∀ v' w', Appended w w' base e size v v' (n + m) (xs ++ news) → K (a.put o.dst v') w') : if Region.wanted o (yielded ops a.tmps) = true then Oper.wp P o a w K Q else E := by
  have hw : Region.wanted o (yielded ops a.tmps) = true := by simp [Region.wanted, hgd]
  rw [if_pos hw]
  obtain ⟨v', w', hrun, happ⟩ := run_app (P := P) (w := w) base t o.type e hinfo ht hzs hsz v n xs hown B A m c news hl hc hA h1 hb hm hbase
  unfold Oper.wp
  simp [execOp, ho, resolve, invoke, builtin, hs, hx, hrun, Result.andThen]
  exact h _ _ happ

def Cleared (p : Nat) (S : Nat → Prop) (R : Nat) (As Fr : List Int) (w : World) (e : Ending) (w' : World) : Prop :=
  ∃ v, e = .returned v ∧ w'.ownsRow w.heap.size 28 1 v (Fr.length + As.length) (words (Fr.reverse ++ As)) ∧ Left p S R [] [] w w'
set_option maxRecDepth 100000 in
set_option maxHeartbeats 1000000 in
theorem clear_any {p : Nat} {S : Nat → Prop} {R : Nat} {As Fr : List Int} (w : World) (h : Line w p S R As Fr) (hn : Fr.length ≤ 1000000) (hn2 : As.length ≤ 1000000) :
    Calls Try.prog 14 #[.pointer (some ⟨p, 0, none⟩)] w (Cleared p S R As Fr w) := by
  obtain ⟨va, vf, h1, h2, h3, h4, h5, h6⟩ := h.ex
  obtain ⟨A, cap, rfl, _, _, hcA, hnil, _⟩ := own_form h2
  have HD : Line w.drew p S R As Fr := h.frm (T := fun _ => False) (Frm.of_heap rfl rfl rfl rfl) (fun _ _ h => h.elim)
  have FR : Hid (Calls Try.prog 13 #[.pointer (some ⟨p, 0, none⟩)] w.drew (Cloned w.drew Fr.length Fr.reverse)) := front_any w.drew HD hn
  have c1 : w.cell? ⟨p, 1, none⟩ = some (.slice A As.length cap) := h1.cell 1
  have H := Troupe.hid h
  have K := Troupe.hid h1
  have CA := Troupe.hid hcA
  have NIL := Troupe.hid hnil
  have hp := h1.lt
  clear h h1 h2 h3 h4 h5 h6 HD hcA hnil
  go_enter Try.func14, Try.ntmps14
  go_wp2_with fail
  go_region_held3 (fun w' => w'.cell? ⟨p, 1, none⟩ = some (.slice A As.length cap)) (go_keep)
    (first
      | (go_at_call 13; refine FR.out.mono ?_; rintro e w2 ⟨v, rfl, ho, hb⟩
         have hb' : Below w.heap.size w w2 := ⟨hb.os, hb.tape, hb.output, hb.size, hb.block⟩
         have k2 : w2.cell? ⟨p, 1, none⟩ = some (.slice A As.length cap) := (hb'.cell hp).trans c1
         have HO : Hid (w2.ownsRow w.heap.size 28 1 v Fr.length (words Fr.reverse)) := ho
         have B2 := Troupe.hid hb'
         have CA2 := Troupe.hid (CA.out.below hb')
         clear ho hb hb')
      | (refine step_app (by rfl) (.tmp 5) (.tmp 9) 22 (by rfl) w.heap.size 28 info28 Try.underlying22 rfl (by decide) v Fr.length (words Fr.reverse) (by rfl) HO.out w.heap.size A As.length cap (words As) (by rfl) (by simp [words]) CA2.out (fun h => (NIL.out h).2) (one_ints _ _) (by omega) (by unfold maxLen; omega) B2.out.size ?_
         intro v2 w3 happ
         have hb3 : Below w.heap.size w w3 := B2.out.trans (happ.frm.below B2.out.size (fun k hk => (HO.out.lt k hk).1))
         have k3 : w3.cell? ⟨p, 1, none⟩ = some (.slice A As.length cap) := (hb3.cell hp).trans c1
         have AP := Troupe.hid happ.own
         have B3 := Troupe.hid hb3
         clear happ hb3)
      | fail)
  have K3 := Troupe.hid (K.out.below B3.out hp)
  have e3 := (K.out.below B3.out hp).cell
  have f3 := (K.out.below B3.out hp).frozen
  clear c1 k2 k3
  go_wp2_with fail
  go_ret
  have hvp : ∀ b, v2.ownBlock = some b → b ≠ p := fun b hb e => by
    obtain ⟨cs, hbk⟩ := own_at AP.out hb
    exact hbk.ne K3.out (by decide) e
  have hs := B3.out.size
  have FF : Frm (fun k => k = p) w3 ((w3.setCell ⟨p, 2, none⟩ (.slice none 0 0)).setCell ⟨p, 1, none⟩ (.slice none 0 0)) := (Frm.one w3 ⟨p, 2, none⟩ _).trans (Frm.one _ ⟨p, 1, none⟩ _) (fun _ _ h => h)
  have e : words (Fr.reverse ++ As) = words Fr.reverse ++ words As := by simp [words]
  refine ⟨v2, rfl, ?_, S, ⟨⟨_, _, (K3.out.set_ 2 _).set_ 1 _, World.ownsRow_nil _ _ _ _, World.ownsRow_nil _ _ _ _, ?_, ?_, ?_⟩, H.out.sS, H.out.hR⟩, fun _ h => .inl h, ?_⟩
  · rw [e]; exact own_frm AP.out FF hvp
  · intro b hb; simp [Value.ownBlock] at hb
  · intro b hb; simp [Value.ownBlock] at hb
  · intro b hb; simp [Value.ownBlock] at hb
  · exact ((Frm.of_below B3.out).mono (S' := S) (fun k hk h => absurd hk (by omega))).trans FF (fun k _ h => h ▸ H.out.sS)
end Go.Proofs.Ytmbpilhngniigaa
