/- The area's Take and Give by contracts. -/
import Derived.Test.YtcgdghnmcahfeaaArea
import Derived.Test.YtcgdghnmcahfeaaMixo
namespace Go.Proofs.Ytcgdghnmcahfeaa
open Go.RowKit Go.Maps Go.Troupe
attribute [local go_sem] reads readAt readUpon Cls

theorem own_ne_p {w : World} {p N n : Nat} {v : Value} {xs : List Value} (h1 : Blk w p 51 [.int .i64 N, v]) (h2 : w.ownsRow 0 47 2 v n xs) : ¬ v.ownBlock = some p := fun e => by
  obtain ⟨cs, hb⟩ := own_at h2 e
  exact hb.ne h1 (by decide) rfl
theorem left_of {p N : Nat} {S : Nat → Prop} {l' : List Rg} {v v' : Value} {w w2 : World} (h1 : Blk w p 51 [.int .i64 N, v]) (h3 : ∀ b, v.ownBlock = some b → S b ∧ b < w.heap.size) (sS : S p) (hN : N ≤ 65536) (ok' : Ok 0 N l') (hvp : ¬ v.ownBlock = some p)
    (hf : Frm (fun k => v.ownBlock = some k) w w2) (ho : w2.ownsRow 0 47 2 v' l'.length (flatG l')) (hat : v'.ownBlock = v.ownBlock ∨ ∃ b, v'.ownBlock = some b ∧ w.heap.size ≤ b) : Left p S N l' w (w2.setCell ⟨p, 1, none⟩ v') := by
  have k2 : Blk w2 p 51 [.int .i64 N, v] := h1.frm hf hvp
  have hlt : ∀ b, v'.ownBlock = some b → b < w2.heap.size ∧ b ≠ p := fun b hb => by
    obtain ⟨cs, hbk⟩ := own_at ho hb
    exact ⟨hbk.lt, fun e => hbk.ne k2 (by decide) e⟩
  have hsz : (w2.setCell ⟨p, 1, none⟩ v').heap.size = w2.heap.size := by simp [World.setCell]
  refine ⟨fun k => S k ∨ (w.heap.size ≤ k ∧ k < (w2.setCell ⟨p, 1, none⟩ v').heap.size), ⟨⟨v', k2.set_ 1 v', own_frm ho (Frm.one w2 ⟨p, 1, none⟩ v') (fun b hb => (hlt b hb).2), fun b hb => ?_⟩, .inl sS, ok', hN⟩, fun _ h => h, ?_⟩
  · have := (hlt b hb).1
    rcases hat with e | ⟨b', e, hge⟩
    · exact ⟨.inl (h3 b (e ▸ hb)).1, by omega⟩
    · rw [e] at hb; cases hb; exact ⟨.inr ⟨hge, by omega⟩, by omega⟩
  · refine (hf.and_then (Frm.one w2 ⟨p, 1, none⟩ v')).mono (fun k hk h => ?_)
    rcases h with h | h
    · exact (h3 k h).1
    · rw [h]; exact sS
theorem left_same {p N : Nat} {S : Nat → Prop} {l : List Rg} {w w2 : World} (h : Area w p S N l) (hb : Below w.heap.size w w2) : Left p S N l w w2 :=
  ⟨S, h.below hb, fun _ h => .inl h, (Frm.of_below hb).mono (fun k hk h => absurd hk (by omega))⟩

def Gave (p : Nat) (S : Nat → Prop) (N : Nat) (l : List Rg) (t : Int) (w : World) (e : Ending) (w' : World) : Prop :=
  e = .returned (.int .i64 (giveV l t).2) ∧ Left p S N (giveV l t).1 w w'
set_option maxRecDepth 100000 in
set_option maxHeartbeats 1000000 in
theorem give_any {p N : Nat} {S : Nat → Prop} {l : List Rg} (t : Int) (w : World) (h : Area w p S N l) :
    Calls Try.prog 11 #[.pointer (some ⟨p, 0, none⟩), .int .i64 t] w (Gave p S N l t w) := by
  have hlen := h.len
  obtain ⟨v, h1, h2, h3⟩ := h.ex
  obtain ⟨A, cap, rfl, _, _, hc, hnil, _⟩ := own_form h2
  have c1 : w.cell? ⟨p, 1, none⟩ = some (.slice A l.length cap) := h1.cell 1
  have SE := Troupe.hid (search_any t A l.length cap w.heap.size 0 N l w rfl hlen hc (Nat.le_refl _) h.ok)
  have NP := Troupe.hid (own_ne_p h1 h2)
  have H := Troupe.hid h
  have H1 := Troupe.hid h1
  have H2 := Troupe.hid h2
  have H3 := Troupe.hid h3
  clear h h1 h2 h3 hc hnil
  go_enter Try.func11, Try.ntmps11
  go_wp2_with fail
  refine SE.out.mono ?_
  rintro e w2 ⟨⟨i, ok, rfl, hy, hno⟩, hb⟩
  have HB := Troupe.hid hb
  clear hb
  cases ok with
  | false =>
    have e1 : Hid (giveV l t = (l, 2)) := giveV_miss (hno rfl)
    clear hy hno
    go_wp2_with fail
    go_ret
    unfold Gave
    rw [e1.out]
    exact ⟨rfl, left_same H.out HB.out⟩
  | true =>
    obtain ⟨r, hr, ht⟩ := hy rfl
    have e1 : Hid (giveV l t = (l.eraseIdx i, 0)) := giveV_hit H.out.ok hr ht
    have hi : i < l.length := (List.getElem?_eq_some_iff.1 hr).1
    have k2 := H1.out.below HB.out H1.out.lt
    have c2 : w2.cell? ⟨p, 1, none⟩ = some (.slice A l.length cap) := k2.cell 1
    have DL := Troupe.hid (delete_any A l.length cap i l w2 rfl hlen hi (own_frm H2.out (Frm.of_below HB.out) (fun b hb hk => absurd (H3.out b hb).2 (by omega))))
    have w1 : IntKind.i64.wrap ((i : Int) + 1) = ((i + 1 : Nat) : Int) := by rw [IntKind.wrap_i64]; omega
    have K2 := Troupe.hid k2
    clear hy hno ht k2 c1
    go_wp2_with fail
    refine DL.out.mono ?_
    rintro e w3 ⟨v', rfl, ho, hf, hat⟩
    obtain ⟨A', cap', rfl, -⟩ := own_form ho
    have k3 := K2.out.frm hf NP.out
    have c3 := k3.cell
    have f3 := k3.frozen
    have HO := Troupe.hid ho
    have HF := Troupe.hid hf
    have HA := Troupe.hid hat
    clear ho hf hat c2 k3
    go_wp2_with fail
    go_ret
    unfold Gave
    rw [e1.out]
    have hl' : (l.eraseIdx i).length = l.length - 1 := by rw [List.length_eraseIdx]; rw [if_pos hi]
    refine ⟨rfl, left_of H1.out H3.out H.out.sS H.out.hN (H.out.ok.erase i) NP.out ?_ (by rw [hl']; exact HO.out) (.inl HA.out)⟩
    exact (((Frm.of_below HB.out).mono (S' := fun k => (Value.slice A l.length cap).ownBlock = some k) (fun k hk h => absurd hk (by omega))).trans HF.out (fun _ _ h => h))

def Took (p : Nat) (S : Nat → Prop) (N : Nat) (l : List Rg) (k : Int) (w : World) (e : Ending) (w' : World) : Prop :=
  e = .returned (.tuple #[.int .i64 (takeV N l k).2.1, .int .i64 (takeV N l k).2.2]) ∧ Left p S N (takeV N l k).1 w w'
set_option maxRecDepth 100000 in
set_option maxHeartbeats 2000000 in
theorem take_any {p N : Nat} {S : Nat → Prop} {l : List Rg} (k : Int) (w : World) (h : Area w p S N l) :
    Calls Try.prog 13 #[.pointer (some ⟨p, 0, none⟩), .int .i64 k] w (Took p S N l k w) := by
  by_cases hk : k < 1
  · have e1 : Hid (takeV N l k = (l, 0, 1)) := by unfold Hid takeV; rw [if_pos hk]
    have kb : Blk (w.alloc (.cells #[.int .i64 k] 3)) w.heap.size 3 [.int .i64 k] := Blk.new w 3 _
    have ck : (w.alloc (.cells #[.int .i64 k] 3)).cell? ⟨w.heap.size, 0, none⟩ = some (.int .i64 k) := kb.cell 0
    have H := Troupe.hid h
    clear kb h
    go_enter Try.func13, Try.ntmps13
    go_wp2_with fail
    go_ret2
    unfold Took
    rw [e1.out]
    exact ⟨rfl, left_same H.out ((Below.refl _ _).alloc (Nat.le_refl _) _)⟩
  obtain ⟨kn, rfl⟩ : ∃ kn : Nat, k = kn := ⟨k.toNat, by omega⟩
  have HK1 := Troupe.hid hk
  have hlen := h.len
  obtain ⟨v, h1, h2, h3⟩ := h.ex
  obtain ⟨A, cap, rfl, _, _, hc, hnil, _⟩ := own_form h2
  have NP := Troupe.hid (own_ne_p h1 h2)
  have kb : Blk (w.alloc (.cells #[.int .i64 kn] 3)) w.heap.size 3 [.int .i64 kn] := Blk.new w 3 _
  have ck : (w.alloc (.cells #[.int .i64 kn] 3)).cell? ⟨w.heap.size, 0, none⟩ = some (.int .i64 kn) := kb.cell 0
  have B1 : Below w.heap.size w ((w.alloc (.cells #[.int .i64 kn] 3)).alloc (.cells #[.int .i64 0] 3)) := ((Below.refl _ _).alloc (Nat.le_refl _) _).alloc (by simp) _
  have g1 : Blk ((w.alloc (.cells #[.int .i64 kn] 3)).alloc (.cells #[.int .i64 0] 3)) w.heap.size 3 [.int .i64 kn] := kb.alloc _
  have g2 : Blk ((w.alloc (.cells #[.int .i64 kn] 3)).alloc (.cells #[.int .i64 0] 3)) (w.heap.size + 1) 3 [.int .i64 0] := by simpa using Blk.new (w.alloc (.cells #[.int .i64 kn] 3)) 3 [.int .i64 0]
  have p1 := h1.below B1 h1.lt
  have cp : ((w.alloc (.cells #[.int .i64 kn] 3)).alloc (.cells #[.int .i64 0] 3)).cell? ⟨p, 1, none⟩ = some (.slice A l.length cap) := p1.cell 1
  have H := Troupe.hid h
  have H1 := Troupe.hid h1
  have H2 := Troupe.hid h2
  have H3 := Troupe.hid h3
  have HC := Troupe.hid hc
  have AB : Hid (∀ b, A = some b → b.block < w.heap.size) := by
    intro b hb
    subst hb
    exact (h3 b.block rfl).2
  have HB := Troupe.hid B1
  have G1 := Troupe.hid g1
  have G2 := Troupe.hid g2
  have hpl := h1.lt
  have CK := Troupe.hid (g1.cell 0)
  clear h h1 h2 h3 hc hnil kb B1 g1 g2 p1
  go_enter Try.func13, Try.ntmps13
  go_wp2_with fail
  obtain ⟨W1, hW1⟩ : ∃ W1, W1 = ((w.alloc (.cells #[.int .i64 kn] 3)).alloc (.cells #[.int .i64 0] 3)) := ⟨_, rfl⟩
  rw [← hW1] at HB G1 G2 CK cp ⊢
  have hWs : W1.heap.size = w.heap.size + 2 := by rw [hW1]; simp
  clear hW1 ck
  refine (index_any kn (w.heap.size + 1) w.heap.size A l.length cap w.heap.size N l W1 rfl H.out.hN (HC.out.below HB.out) HB.out.size H.out.ok G2.out CK.out (by omega) (fun b hb => by have := AB.out b hb; omega)).mono ?_
  rintro e w2 ⟨rfl, hf, hg⟩
  have F2 := Troupe.hid hf
  have NK : Hid (¬ (Value.slice A l.length cap).ownBlock = some w.heap.size) := fun e => by have := (H3.out _ e).2; omega
  have NB : Hid (¬ (Value.slice A l.length cap).ownBlock = some (w.heap.size + 1)) := fun e => by have := (H3.out _ e).2; omega
  have K2 := Troupe.hid (G1.out.frm hf (by omega))
  have P2 := Troupe.hid ((H1.out.below HB.out H1.out.lt).frm hf (by omega))
  have OK := Troupe.hid (scan_ok l kn 0 0 N (by omega) H.out.ok)
  have TK : Hid (takeV N l kn = if (scan kn 0 0 l).1 < 0 then (if (N : Int) - (scan kn 0 0 l).2 < kn then (l, 0, 4) else (l ++ [((scan kn 0 0 l).2, kn)], ((scan kn 0 0 l).2 : Int), 0)) else (l.insertIdx (scan kn 0 0 l).1.toNat ((scan kn 0 0 l).2, kn), ((scan kn 0 0 l).2 : Int), 0)) := by
    unfold Hid takeV
    rw [if_neg (by have := HK1.out; omega), Int.toNat_natCast]
  have OW2 : Hid (w2.ownsRow 0 47 2 (.slice A l.length cap) l.length (flatG l)) :=
    own_frm H2.out ((Frm.of_below HB.out).trans (F2.out.mono (S' := fun b => w.heap.size ≤ b) (fun b _ hb => by omega)) (fun _ _ h => h)) (fun b hb hk => by have := (H3.out b hb).2; omega)
  generalize scan kn 0 0 l = sc at *
  obtain ⟨si, sb⟩ := sc
  have Q2 := Troupe.hid hg
  clear hf hg
  rcases OK.out with ⟨e1, hsb, hok⟩ | ⟨j, e1, hj, hok, hfit⟩
  · obtain rfl : si = -1 := e1
    have p2c := P2.out.cell
    have q2c := Q2.out.cell
    have k2c := K2.out.cell
    have p0 : w2.cell? ⟨p, 0, none⟩ = some (.int .i64 N) := p2c 0
    have p1 : w2.cell? ⟨p, 1, none⟩ = some (.slice A l.length cap) := p2c 1
    have hNN := H.out.hN
    have w1 : IntKind.i64.wrap ((N : Int) - sb) = (N : Int) - sb := by rw [IntKind.wrap_i64]; omega
    clear p2c q2c k2c cp
    by_cases hroom : (N : Int) - sb < kn
    · have RES : Hid (takeV N l kn = (l, 0, 4)) := by unfold Hid; rw [TK.out, if_pos (by show (-1 : Int) < 0; decide), if_pos hroom]
      go_wp2_with fail
      refine region_still (by kernel_rfl) (by kernel_rfl) ?_
      intro w3 hh hf
      have c0 : w3.cell? ⟨p, 0, none⟩ = some (.int .i64 N) := (P2.out.heap hh).cell 0
      have c1 : w3.cell? ⟨w.heap.size + 1, 0, none⟩ = some (.int .i64 sb) := (Q2.out.heap hh).cell 0
      have c2 : w3.cell? ⟨w.heap.size, 0, none⟩ = some (.int .i64 kn) := (K2.out.heap hh).cell 0
      have F3 := Troupe.hid hf
      clear hh hf
      repeat still_step
      refine wpStill_nil ?_
      go_wp2_with fail
      go_ret2
      unfold Took
      rw [RES.out]
      exact ⟨rfl, left_same H.out (HB.out.trans (((F2.out.mono (S' := fun b => w.heap.size ≤ b) (fun b _ hb => by omega)).trans F3.out (fun _ _ h => h.elim)).below HB.out.size (fun _ h => h)))⟩
    · have RES : Hid (takeV N l kn = (l ++ [(sb, kn)], (sb : Int), 0)) := by unfold Hid; rw [TK.out, if_pos (by show (-1 : Int) < 0; decide), if_neg hroom]
      go_wp2_with fail
      refine region_still (by kernel_rfl) (by kernel_rfl) ?_
      intro w3 hh hf
      have c0 : w3.cell? ⟨p, 0, none⟩ = some (.int .i64 N) := (P2.out.heap hh).cell 0
      have c1 : w3.cell? ⟨w.heap.size + 1, 0, none⟩ = some (.int .i64 sb) := (Q2.out.heap hh).cell 0
      have c2 : w3.cell? ⟨w.heap.size, 0, none⟩ = some (.int .i64 kn) := (K2.out.heap hh).cell 0
      have p1 : w3.cell? ⟨p, 1, none⟩ = some (.slice A l.length cap) := (P2.out.heap hh).cell 1
      have F3 := Troupe.hid (F2.out.trans hf (fun _ _ h => h.elim))
      have P3 := Troupe.hid (P2.out.heap hh)
      have Q3 := Troupe.hid (Q2.out.heap hh)
      have K3 := Troupe.hid (K2.out.heap hh)
      have OW3 := Troupe.hid (own_heap OW2.out hh)
      clear hh hf P2 Q2 K2 OW2 F2
      repeat still_step
      refine wpStill_nil ?_
      go_wp2_with fail
      clear c0 c1 c2 p0 p1
      let S0 : World → Prop := fun w' => Frm (fun b => (Value.slice A l.length cap).ownBlock = some b) w3 w'
      have hne : Nonempty (SW S0) := ⟨⟨w3, Frm.refl _ _⟩⟩
      have FP : ∀ (x : SW S0) (i : Nat), x.w.cell? ⟨p, i, none⟩ = [Value.int .i64 N, .slice A l.length cap][i]? := fun x i => (P3.out.frm x.h NP.out).cell i
      have FK : ∀ (x : SW S0) (i : Nat), x.w.cell? ⟨w.heap.size, i, none⟩ = [Value.int .i64 kn][i]? := fun x i => (K3.out.frm x.h NK.out).cell i
      have FB : ∀ (x : SW S0) (i : Nat), x.w.cell? ⟨w.heap.size + 1, i, none⟩ = [Value.int .i64 sb][i]? := fun x i => (Q3.out.frm x.h NB.out).cell i
      refine region_mixo (S := Cls S0) [0, 1, 2, 3, 4, 5, 6, 7, 8] [9, 10] 11 (by kernel_rfl) (by kernel_rfl) (fun _ _ d _ _ h => by cases d <;> exact h) ?_
      intro w6 hh o1 o2 o3
      have F6 : Frm (fun b => (Value.slice A l.length cap).ownBlock = some b) w3 w6 := (Frm.of_heap (S := fun _ => False) hh o1 o2 o3).mono (fun _ _ h => h.elim)
      have OW6 := Troupe.hid (own_heap OW3.out hh)
      clear hh o1 o2 o3
      refine ⟨Cls.of F6, ?_⟩
      simp only [pick, List.getElem?_cons_succ, List.getElem?_cons_zero, List.drop_succ_cons, List.drop_zero]
      repeat (refine wpReads_step (fun K hK => ?_); go_simp; refine hK _ ?_; clear hK K)
      refine wpReads_nil ?_
      unfold wpMid
      go_wp2_with fail
      have F7 : Frm (fun b => (Value.slice A l.length cap).ownBlock = some b) w3 (w6.alloc (.cells #[.int .i64 sb, .int .i64 kn] 47)) := F6.alloc _
      have B7 : Blk (w6.alloc (.cells #[.int .i64 sb, .int .i64 kn] 47)) w6.heap.size 47 (cellG (sb, kn)) := Blk.new _ _ _
      have HS6 := F6.size
      have INS := Troupe.hid (insert_any A l.length cap l.length w6.heap.size l (sb, kn) (w6.alloc (.cells #[.int .i64 sb, .int .i64 kn] 47)) rfl hlen (Nat.le_refl _) (own_frm OW6.out ((Frm.refl (fun _ => False) w6).alloc _) (fun _ _ h => h)) B7 (fun b hb e => by have := AB.out b hb; have := F3.out.size; have := HB.out.size; omega))
      refine ⟨Cls.of F7, ?_⟩
      generalize w6.alloc (.cells #[.int .i64 sb, .int .i64 kn] 47) = w7 at *
      clear B7
      unfold wpMid
      go_wp2_with fail
      refine INS.out.mono ?_
      rintro e w8 ⟨v', rfl, ho, hf8, hat⟩
      obtain ⟨A8, c8, rfl, -⟩ := own_form ho
      have F8 : Frm (fun b => (Value.slice A l.length cap).ownBlock = some b) w3 w8 := F7.trans hf8 (fun _ _ h => h)
      have HO := Troupe.hid ho
      have HA := Troupe.hid hat
      have HS7 := F7.size
      clear ho hf8 hat
      go_wp2_with fail
      refine ⟨Cls.of F8, ?_⟩
      have p8 := P3.out.frm F8 NP.out
      have fp8 := p8.frozen
      have cp8 := p8.cell
      have b8 := Q3.out.frm F8 NB.out
      have HF8 := Troupe.hid F8
      have cb8 : (w8.setCell ⟨p, 1, none⟩ (.slice A8 (l.length + 1) c8)).cell? ⟨w.heap.size + 1, 0, none⟩ = some (.int .i64 sb) := (b8.far (by show w.heap.size + 1 ≠ p; omega) _).cell 0
      clear p8 b8 FP FK FB hne F6 F7 F8
      unfold wpMid
      go_wp2_with fail
      go_ret2
      unfold Took
      rw [RES.out]
      have hl' : (l ++ [(sb, kn)]).length = l.length + 1 := by simp
      refine ⟨rfl, left_of H1.out H3.out H.out.sS H.out.hN (hok kn rfl (by omega)) NP.out ?_ (by rw [hl']; rw [show l ++ [(sb, kn)] = l.insertIdx l.length (sb, kn) by rw [insertIdx_eq _ _ _ (Nat.le_refl _)]; simp]; exact HO.out) (HA.out.imp_right fun ⟨b, hb, hge⟩ => ⟨b, hb, by have := F3.out.size; have := HB.out.size; omega⟩)⟩
      exact ((((Frm.of_below HB.out).mono (S' := fun _ => False) (fun k hk h => absurd hk (by omega))).trans F3.out (S' := fun b => b = w.heap.size + 1) (fun k hk h => by omega)).mono (S' := fun b => (Value.slice A l.length cap).ownBlock = some b) (fun _ _ h => h.elim)).trans HF8.out (fun _ _ h => h)
  · have hsi : ¬ si < 0 := by omega
    obtain rfl : si = (j : Int) := by omega
    have RES : Hid (takeV N l kn = (l.insertIdx j (sb, kn), (sb : Int), 0)) := by unfold Hid; rw [TK.out, if_neg hsi]; simp
    have hj0 : ((j : Int) < 0) = False := by simp
    clear cp e1 hsi hfit
    go_wp2_with fail
    let S0 : World → Prop := fun w' => Frm (fun b => (Value.slice A l.length cap).ownBlock = some b) w2 w'
    have hne : Nonempty (SW S0) := ⟨⟨w2, Frm.refl _ _⟩⟩
    have FP : ∀ (x : SW S0) (i : Nat), x.w.cell? ⟨p, i, none⟩ = [Value.int .i64 N, .slice A l.length cap][i]? := fun x i => (P2.out.frm x.h NP.out).cell i
    have FK : ∀ (x : SW S0) (i : Nat), x.w.cell? ⟨w.heap.size, i, none⟩ = [Value.int .i64 kn][i]? := fun x i => (K2.out.frm x.h NK.out).cell i
    have FB : ∀ (x : SW S0) (i : Nat), x.w.cell? ⟨w.heap.size + 1, i, none⟩ = [Value.int .i64 sb][i]? := fun x i => (Q2.out.frm x.h NB.out).cell i
    refine region_mixo (S := Cls S0) [0, 1, 2, 3, 4, 5, 6, 7, 8] [9, 10] 11 (by kernel_rfl) (by kernel_rfl) (fun _ _ d _ _ h => by cases d <;> exact h) ?_
    intro w6 hh o1 o2 o3
    have F6 : Frm (fun b => (Value.slice A l.length cap).ownBlock = some b) w2 w6 := (Frm.of_heap (S := fun _ => False) hh o1 o2 o3).mono (fun _ _ h => h.elim)
    have OW6 := Troupe.hid (own_heap OW2.out hh)
    clear hh o1 o2 o3
    refine ⟨Cls.of F6, ?_⟩
    simp only [pick, List.getElem?_cons_succ, List.getElem?_cons_zero, List.drop_succ_cons, List.drop_zero]
    repeat (refine wpReads_step (fun K hK => ?_); go_simp; refine hK _ ?_; clear hK K)
    refine wpReads_nil ?_
    unfold wpMid
    go_wp2_with fail
    have F7 : Frm (fun b => (Value.slice A l.length cap).ownBlock = some b) w2 (w6.alloc (.cells #[.int .i64 sb, .int .i64 kn] 47)) := F6.alloc _
    have B7 : Blk (w6.alloc (.cells #[.int .i64 sb, .int .i64 kn] 47)) w6.heap.size 47 (cellG (sb, kn)) := Blk.new _ _ _
    have HS6 := F6.size
    have INS := Troupe.hid (insert_any A l.length cap j w6.heap.size l (sb, kn) (w6.alloc (.cells #[.int .i64 sb, .int .i64 kn] 47)) rfl hlen (by omega) (own_frm OW6.out ((Frm.refl (fun _ => False) w6).alloc _) (fun _ _ h => h)) B7 (fun b hb e => by have := AB.out b hb; have := F2.out.size; have := HB.out.size; omega))
    refine ⟨Cls.of F7, ?_⟩
    generalize w6.alloc (.cells #[.int .i64 sb, .int .i64 kn] 47) = w7 at *
    clear B7
    unfold wpMid
    go_wp2_with fail
    refine INS.out.mono ?_
    rintro e w8 ⟨v', rfl, ho, hf8, hat⟩
    obtain ⟨A8, c8, rfl, -⟩ := own_form ho
    have F8 : Frm (fun b => (Value.slice A l.length cap).ownBlock = some b) w2 w8 := F7.trans hf8 (fun _ _ h => h)
    have HO := Troupe.hid ho
    have HA := Troupe.hid hat
    have HS7 := F7.size
    clear ho hf8 hat
    go_wp2_with fail
    refine ⟨Cls.of F8, ?_⟩
    have p8 := P2.out.frm F8 NP.out
    have fp8 := p8.frozen
    have cp8 := p8.cell
    have b8 := Q2.out.frm F8 NB.out
    have HF8 := Troupe.hid F8
    have cb8 : (w8.setCell ⟨p, 1, none⟩ (.slice A8 (l.length + 1) c8)).cell? ⟨w.heap.size + 1, 0, none⟩ = some (.int .i64 sb) := (b8.far (by show w.heap.size + 1 ≠ p; omega) _).cell 0
    clear p8 b8 FP FK FB hne F6 F7 F8
    unfold wpMid
    go_wp2_with fail
    go_ret2
    unfold Took
    rw [RES.out]
    have hl' : (l.insertIdx j (sb, kn)).length = l.length + 1 := by rw [List.length_insertIdx]; rw [if_pos (by omega)]
    refine ⟨rfl, left_of H1.out H3.out H.out.sS H.out.hN (hok kn rfl) NP.out ?_ (by rw [hl']; exact HO.out) (HA.out.imp_right fun ⟨b, hb, hge⟩ => ⟨b, hb, by have := F2.out.size; have := HB.out.size; omega⟩)⟩
    exact ((((Frm.of_below HB.out).mono (S' := fun _ => False) (fun k hk h => absurd hk (by omega))).trans F2.out (S' := fun b => b = w.heap.size + 1) (fun k hk h => by omega)).mono (S' := fun b => (Value.slice A l.length cap).ownBlock = some b) (fun _ _ h => h.elim)).trans HF8.out (fun _ _ h => h)
end Go.Proofs.Ytcgdghnmcahfeaa
