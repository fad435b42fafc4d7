/- The line's Unstash by contract. -/
import Derived.Test.YtmbpilhngniigaaBackward
import Derived.Test.YtmbpilhngniigaaMixo
namespace Go.Proofs.Ytmbpilhngniigaa
open Go.RowKit Go.Maps Go.Troupe Go.Shelf
attribute [local go_sem] Oper.semAt_some reads readAt readUpon Cls

/-- slices.Backward's iterator, over a row. -/
theorem back_stops (F : Fence) (n : Nat) (h26 : F.fn 26) (hro : F.round = none) (hn : 1 ≤ n) (Bs : Nat) (T : Nat → Prop) (hTB : ¬ T Bs) (A : Option Addr) (len cap : Nat) (zs : List Int) (hl : zs.length = len) (hreach : len ≤ 1000000) (w : World)
    (hBs : Blk w Bs 22 [.slice A len cap]) (hc : 0 < len → ∃ b, A = some ⟨b, 0, none⟩ ∧ b < w.heap.size ∧ ¬ T b ∧ ∀ j, j < len → w.cell? ⟨b, j, none⟩ = some (.int .u64 (zs[j]?.getD 0))) :
    SeqStopsK F n Try.prog 26 #[.pointer (some ⟨Bs, 0, none⟩)] (fun x : Int × Int => #[Value.int .i64 x.1, Value.int .u64 x.2]) (Frm T) (fun ys => ys = bk zs len) (fun pre => ∃ k, k ≤ len ∧ pre = bk zs k) len w := fun l J Jx W hW _ _ hY h0 =>
  back1_in F n h26 hro hn l Bs T hTB A len cap zs hl hreach J Jx hY W (hBs.below hW hBs.lt) (fun h => by
    obtain ⟨b, e, hb, hT, hcs⟩ := hc h
    exact ⟨b, e, Nat.lt_of_lt_of_le hb hW.size, hT, fun j hj => (hW.cell (p := ⟨b, j, none⟩) hb).trans (hcs j hj)⟩) h0

/-- What stands between two rounds: the line, its front longer by what has come. -/
structure Mid (w : World) (B p : Nat) (S : Nat → Prop) (R n c : Nat) (A : Option Addr) (As Fr : List Int) (x : Nat) (W : World) : Prop where
  ex : ∃ vf, Blk W p 50 [.int .i64 R, .slice A n c, vf] ∧ W.ownsRow 0 28 1 vf Fr.length (words Fr) ∧ (∀ b, vf.ownBlock = some b → (Value.slice A n c).ownBlock ≠ some b ∧ b ≠ x ∧ (S b ∧ b < w.heap.size ∨ B ≤ b) ∧ b < W.heap.size)
  box : Blk W w.heap.size 24 [.pointer (some ⟨p, 0, none⟩)]
  row : W.ownsRow 0 28 1 (.slice A n c) n (words As)
  frm : Frm S w W
  big : B ≤ W.heap.size
theorem Mid.keep {w : World} {B p : Nat} {S : Nat → Prop} {R n c : Nat} {A : Option Addr} {As Fr : List Int} {x : Nat} {W W' : World} {T : Nat → Prop} (h : Mid w B p S R n c A As Fr x W) (hf : Frm T W W')
    (hT : ∀ k t cs, Blk W k t cs → ¬ T k) (hT2 : ∀ k, T k → w.heap.size ≤ k) : Mid w B p S R n c A As Fr x W' := by
  obtain ⟨vf, h1, h2, h3⟩ := h.ex
  refine ⟨⟨vf, h1.frm hf (hT _ _ _ h1), own_frm h2 hf (fun b hb => ?_), fun b hb => ⟨(h3 b hb).1, (h3 b hb).2.1, (h3 b hb).2.2.1, Nat.lt_of_lt_of_le (h3 b hb).2.2.2 hf.size⟩⟩, h.box.frm hf (hT _ _ _ h.box), own_frm h.row hf (fun b hb => ?_),
    h.frm.trans hf (fun k hk ht => absurd (hT2 k ht) (by omega)), Nat.le_trans h.big hf.size⟩
  · obtain ⟨cs, hbk⟩ := own_at h2 hb
    exact hT _ _ _ hbk
  · obtain ⟨cs, hbk⟩ := own_at h.row hb
    exact hT _ _ _ hbk

def Unstashed (p : Nat) (S : Nat → Prop) (R : Nat) (As Fr : List Int) (w : World) (e : Ending) (w' : World) : Prop := e = .returned (.int .i64 As.length) ∧ Left p S R [] (Fr ++ As.reverse) w w'
set_option maxRecDepth 100000 in
set_option maxHeartbeats 2000000 in
theorem unstash_any {p : Nat} {S : Nat → Prop} {R : Nat} {As Fr : List Int} (w : World) (h : Line w p S R As Fr) (hn : As.length ≤ 1000000) (hn2 : Fr.length ≤ 1000000) :
    Calls Try.prog 11 #[.pointer (some ⟨p, 0, none⟩)] w (Unstashed p S R As Fr w) := by
  obtain ⟨va, vf, h1, h2, h3, h4, h5, h6⟩ := h.ex
  obtain ⟨A, cap, rfl, -⟩ := own_form h2
  have bX := Blk.new w 24 [.pointer (some ⟨p, 0, none⟩)]
  have H := Troupe.hid h
  have hp := h1.lt
  have k1 := h1.alloc (.cells [Value.pointer (some ⟨p, 0, none⟩)].toArray 24)
  have c1 : (w.alloc (.cells #[.pointer (some ⟨p, 0, none⟩)] 24)).cell? ⟨p, 1, none⟩ = some (.slice A As.length cap) := k1.cell 1
  have H1 := Troupe.hid h1
  have H2 := Troupe.hid h2
  have H3 := Troupe.hid h3
  have H4 := Troupe.hid h4
  have H5 := Troupe.hid h5
  have H6 := Troupe.hid h6
  have BX := Troupe.hid bX
  clear h h1 h2 h3 h4 h5 h6 k1 bX
  have f22 : Fence.wide.fn 22 := trivial
  refine (callsIn_wide (n := 3)).1 ?_
  refine callsIn_of_wp_marks Try.func11 rfl trivial ?_ rfl
  simp only [Try.ntmps11, List.size_toArray, List.length_cons, List.length_nil, Nat.reduceAdd, Nat.reduceSub, Array.replicate_succ, Array.replicate_zero, List.push_toArray, List.append_toArray, List.nil_append, List.cons_append]
  gi_wp2_with (gi_at_call 22; refine (callsIn_wide.2 (backward_any _ _ _ _)).mono ?_; rintro e w2 ⟨rfl, hb2, hbl2⟩; have B2 := Troupe.hid hb2; have L2 := Troupe.hid hbl2; clear hb2 hbl2)
  have HS2 := L2.out.size
  have hs1 : (w.alloc (.cells #[Value.pointer (some ⟨p, 0, none⟩)] 24)).heap.size = w.heap.size + 1 := by simp
  have B2' : Blk w2 (w.heap.size + 1) 22 [.slice A As.length cap] := by have := B2.out; rwa [hs1] at this
  have F2 : Frm (fun _ => False) w w2 := ((Frm.refl _ w).alloc (.cells [Value.pointer (some ⟨p, 0, none⟩)].toArray 24)).trans ((Frm.of_below L2.out).mono (S' := fun _ => False) (fun k hk h => absurd hk (by omega))) (fun _ _ h => h)
  have M0 : Mid w w2.heap.size p S R As.length cap A As Fr (w.heap.size + 1) w2 := by
    refine ⟨⟨vf, H1.out.frm F2 (fun h => h), own_frm H3.out F2 (fun _ _ h => h), fun b hb => ⟨fun e => H4.out b e hb, ?_, .inl (H6.out b hb), ?_⟩⟩, ?_, own_frm H2.out F2 (fun _ _ h => h), F2.mono (fun _ _ h => h.elim), Nat.le_refl _⟩
    · have := (H6.out b hb).2; omega
    · have := (H6.out b hb).2; omega
    · exact BX.out.below L2.out BX.out.lt
  refine wpIn_rangeFunc_ownG rfl (by decide) (gf := 26) (lb := #[.pointer (some ⟨w.heap.size + 1, 0, none⟩)]) rfl trivial (enters_of Try.func26 (by kernel_rfl) rfl)
    (back_stops Fence.wide 2 trivial rfl (by decide) (w.heap.size + 1) (fun k => k ≠ w.heap.size + 1 ∧ (Value.slice A As.length cap).ownBlock ≠ some k) (fun h => h.1 rfl) A As.length cap As rfl hn w2 B2' ?row)
    (fun h k => h.trans k (fun _ _ h => h)) ?keep (Below.refl _ _) (fun _ => rfl)
    (fun pre W => Mid w w2.heap.size p S R As.length cap A As (Fr ++ pre.map Prod.snd) (w.heap.size + 1) W)
    (fun _ _ _ => False) ?own (fun _ _ _ _ _ hs _ _ => hs) (by simpa using M0)
    (fun x => { tmps := #[.pointer (some ⟨p, 0, none⟩), .pointer (some ⟨w.heap.size, 0, none⟩), .int .i64 0, .int .i64 As.length, undef, .int .u64 x.2, .pointer (some ⟨p, 0, none⟩), .pointer (some ⟨p, 0, none⟩), .pointer (some ⟨p, 1, none⟩), .slice A As.length cap, .int .i64 As.length, .pointer (some ⟨p, 0, none⟩), .pointer (some ⟨p, 0, none⟩), .pointer (some ⟨p, 1, none⟩), .slice A As.length cap, .func (.func 26) #[] #[.pointer (some ⟨w.heap.size + 1, 0, none⟩)], .int .i64 x.1, .int .u64 x.2, undef, undef, undef, undef, undef, undef, undef, undef, undef, undef, undef, undef, undef, undef], defers := [] }) ?assign ?body ?done ?stop
  case assign =>
    intro l x W K hK
    gi_wp2
    exact hK
  case stop =>
    rintro D c pre W _ _ h _
    exact h.elim
  case body =>
    rintro l pre x W hM hlt
    obtain ⟨vf1, k1, o1, s1⟩ := hM.ex
    obtain ⟨Af, cf, rfl, -⟩ := own_form o1
    have NP : ¬ (Value.slice Af (Fr ++ pre.map Prod.snd).length cf).ownBlock = some p := fun e => by
      obtain ⟨cs, hb⟩ := own_at o1 e
      exact hb.ne k1 (by decide) rfl
    have NB : ¬ (Value.slice Af (Fr ++ pre.map Prod.snd).length cf).ownBlock = some w.heap.size := fun e => by
      obtain ⟨cs, hb⟩ := own_at o1 e
      exact hb.ne hM.box (by decide) rfl
    have hlen : (Fr ++ pre.map Prod.snd).length ≤ 2000000 := by simp; omega
    have KB := Troupe.hid hM.box
    have KP := Troupe.hid k1
    have OF := Troupe.hid o1
    have S1 := Troupe.hid s1
    have HM := Troupe.hid hM
    have NPH := Troupe.hid NP
    have NBH := Troupe.hid NB
    clear hM k1 o1 s1 NP NB
    obtain ⟨N, hN⟩ : ∃ N, (Fr ++ pre.map Prod.snd).length = N := ⟨_, rfl⟩
    rw [hN] at KP OF S1 NPH NBH hlen
    let S0 : World → Prop := fun W' => Frm (fun k => (Value.slice Af N cf).ownBlock = some k) W W'
    have hne : Nonempty (SW S0) := ⟨⟨W, Frm.refl _ _⟩⟩
    have FB : ∀ (y : SW S0) (i : Nat), y.w.cell? ⟨w.heap.size, i, none⟩ = [Value.pointer (some ⟨p, 0, none⟩)][i]? := fun y i => (KB.out.frm y.h NBH.out).cell i
    have FC : ∀ (y : SW S0) (i : Nat), y.w.cell? ⟨p, i, none⟩ = [Value.int .i64 R, .slice A As.length cap, .slice Af N cf][i]? := fun y i => (KP.out.frm y.h NPH.out).cell i
    gi_wp2
    refine region_mixo_round (S := Cls S0) [0, 1, 2, 3, 4, 5] [6, 7] 8 (by kernel_rfl) (by kernel_rfl) (by kernel_rfl) (by rintro ⟨_, _, h⟩; exact h) (fun _ _ _ _ _ h => h) ?_
    intro W6 hh o1 o2 o3
    have F6 : Frm (fun _ => False) W W6 := Frm.of_heap hh o1 o2 o3
    clear hh o1 o2 o3
    refine ⟨Cls.of (F6.mono (fun _ _ h => h.elim)), ?_⟩
    simp only [pick, List.getElem?_cons_succ, List.getElem?_cons_zero, List.drop_succ_cons, List.drop_zero]
    repeat (refine wpReads_step (fun K hK => ?_); go_simp; refine hK _ ?_; clear hK K)
    refine wpReads_nil ?_
    unfold wpMid
    go_wp2_with fail
    have F7 : Frm (fun _ => False) W (W6.alloc (.cells #[.int .u64 x.2] 28)) := F6.alloc _
    refine ⟨Cls.of (F7.mono (fun _ _ h => h.elim)), ?_⟩
    have B7 : Blk (W6.alloc (.cells #[.int .u64 x.2] 28)) W6.heap.size 28 [.int .u64 x.2] := Blk.new _ _ _
    have hs7 : (W6.alloc (.cells #[.int .u64 x.2] 28)).heap.size = W6.heap.size + 1 := by simp
    have C7 := Troupe.hid B7.blk_cells
    have HS := F6.size
    have OC7 := Troupe.hid (own_frm OF.out F7 (fun _ _ h => h))
    have K7 := Troupe.hid (KP.out.frm F7 (fun h => h))
    have KB7 := Troupe.hid (KB.out.frm F7 (fun h => h))
    have F7H := Troupe.hid F7
    clear F7 B7 F6
    unfold wpMid
    go_wp2_with (at_builtin; refine wpList_app rfl (.tmp 22) (.tmp 24) 22 rfl 0 28 info28 Try.underlying22 rfl (by decide) (.slice Af N cf) N (words (Fr ++ pre.map Prod.snd)) rfl OC7.out (W6.heap.size + 1) (some ⟨W6.heap.size, 0, none⟩) 1 1 [.int .u64 x.2] rfl rfl C7.out (fun h => by cases h) (by simp [Value.oneCell']) (by omega) (by unfold maxLen; omega) (Nat.zero_le _) ?_; intro v0 w8 h'; obtain ⟨A', cap', rfl, -⟩ := own_form h'.own; have e8 := (K7.out.frm h'.frm NPH.out).cell; have A8 := Troupe.hid h'; have k8 := K7.out.frm h'.frm NPH.out; have f8 := k8.frozen; have K8 := Troupe.hid k8; clear h' k8)
    have F8 : Frm (fun k => (Value.slice Af N cf).ownBlock = some k) W w8 := (F7H.out.mono (fun _ _ h => h.elim)).trans A8.out.frm (fun _ _ h => h)
    refine ⟨Cls.of F8, ?_⟩
    have F8H := Troupe.hid F8
    have hs8 := A8.out.frm.size
    clear F8 FB FC hne
    unfold wpMid
    go_wp2_with fail
    (try simp only [Exit.inBlock, Exit.then])
    have hv8 : ∀ b, (Value.slice A' (N + 1) cap').ownBlock = some b → (Value.slice Af N cf).ownBlock = some b ∨ W.heap.size ≤ b := fun b hb => by
      rcases A8.out.at_ with e | e
      · exact .inl (e ▸ hb)
      · rw [e] at hb; cases hb; exact .inr (by omega)
    have hl8 : ∀ b, (Value.slice A' (N + 1) cap').ownBlock = some b → b < w8.heap.size ∧ b ≠ p := fun b hb => by
      obtain ⟨cs, hbk⟩ := own_at A8.out.own hb
      exact ⟨hbk.lt, fun e => hbk.ne K8.out (by decide) e⟩
    have hs9 : (w8.setCell ⟨p, 2, none⟩ (Value.slice A' (N + 1) cap')).heap.size = w8.heap.size := by simp [World.setCell]
    have F9 : Frm (fun k => (Value.slice Af N cf).ownBlock = some k ∨ k = p) W (w8.setCell ⟨p, 2, none⟩ (Value.slice A' (N + 1) cap')) := F8H.out.and_then (Frm.one w8 ⟨p, 2, none⟩ (Value.slice A' (N + 1) cap'))
    have hA : ∀ b, (Value.slice A As.length cap).ownBlock = some b → b < w.heap.size ∧ S b ∧ b ≠ p := fun b hb => by
      obtain ⟨cs, hbk⟩ := own_at H2.out hb
      exact ⟨(H5.out b hb).2, (H5.out b hb).1, fun e => hbk.ne H1.out (by decide) e⟩
    refine ⟨⟨F9.size, fun k o hk ho hc => ?_⟩, F9.mono (fun k hk h => ?_), ⟨⟨.slice A' (N + 1) cap', K8.out.set_ 2 (.slice A' (N + 1) cap'), ?_, ?_⟩, ?_, ?_, ?_, ?_⟩⟩
    · refine (F9.block k (Array.getElem?_eq_some_iff.1 ho).1 (fun h => ?_)).trans ho
      rcases h with h | h
      · obtain ⟨cs, hb⟩ := own_at OF.out h
        unfold Blk at hb
        rw [hb] at ho; cases ho; cases hc
      · subst h; omega
    · rcases h with h | h
      · exact ⟨(S1.out k h).2.1, (S1.out k h).1⟩
      · subst h; exact ⟨by omega, fun e => (hA _ e).2.2 rfl⟩
    · have := own_frm A8.out.own (Frm.one w8 ⟨p, 2, none⟩ (Value.slice A' (N + 1) cap')) (fun b hb => (hl8 b hb).2)
      have e : words (Fr ++ (pre ++ [x]).map Prod.snd) = words (Fr ++ pre.map Prod.snd) ++ [.int .u64 x.2] := by simp [words]
      have e2 : (Fr ++ (pre ++ [x]).map Prod.snd).length = N + 1 := by rw [← hN]; simp; omega
      rw [e, e2]; exact this
    · intro b hb
      have := hl8 b hb
      rcases hv8 b hb with h | h
      · have h3 := S1.out b h
        exact ⟨h3.1, h3.2.1, h3.2.2.1, by omega⟩
      · have hW := HM.out.big
        have hb2 := B2'.lt
        exact ⟨fun e => by have := (hA b e).1; omega, by omega, .inr (by omega), by omega⟩
    · exact (KB.out.frm F9 (fun h => by rcases h with h | h; exact NBH.out h; omega))
    · refine own_frm HM.out.row F9 (fun b hb h => ?_)
      rcases h with h | h
      · exact (S1.out b h).1 hb
      · exact (hA b hb).2.2 h
    · refine HM.out.frm.trans F9 (fun k hk h => ?_)
      rcases h with h | h
      · rcases (S1.out k h).2.2.1 with h2 | h2
        · exact h2.1
        · omega
      · exact h ▸ H.out.sS
    · exact Nat.le_trans HM.out.big F9.size
  case row =>
    intro h0
    rcases own_blk H2.out with ⟨-, h1, -⟩ | ⟨g, cs, rfl, hbk, -, -, -, -, ht⟩
    · omega
    · have hg := H5.out g rfl
      refine ⟨g, rfl, (hbk.frm F2 (fun h => h)).lt, fun h => h.2 rfl, fun j hj => ?_⟩
      rw [(hbk.frm F2 (fun h => h)).cell]
      have e := congrArg (fun l => l[j]?) ht
      simp only [Nat.mul_one, words, List.getElem?_map] at e
      rw [List.getElem?_take, if_pos hj] at e
      rw [e]
      simp [hj]
  case keep =>
    intro W l o o' hl ho hc hw
    refine (Frm.of_grown (grownBy_putObj' W l o')).mono (fun k hk h => ?_)
    cases h
    exact ⟨by have := B2'.lt; omega, fun e => by have := (H5.out l e).2; omega⟩
  case own =>
    intro s W W' row hs hg hr
    refine hs.keep (Frm.of_grown hg) (fun k t cs hk h => ?_) (fun k h => ?_)
    · obtain ⟨_, o, ho, hc⟩ := hr k h.symm
      unfold Blk at hk
      rw [hk] at ho; cases ho; cases hc
    · have := (hr k h.symm).1; omega
  case done =>
    rintro D ys W hD rfl hM hK
    obtain ⟨vf1, k1, o1, s1⟩ := hM.ex
    have e1 := k1.cell
    have f1 := k1.frozen
    have eb := hM.box.cell
    have HM := Troupe.hid hM
    have HK := Troupe.hid hK
    have K1 := Troupe.hid k1
    have O1 := Troupe.hid o1
    have S1 := Troupe.hid s1
    clear hM hK k1 o1 s1
    gi_wp2
    have hs5 : (W.setCell ⟨p, 1, none⟩ (.slice none 0 0)).heap.size = W.heap.size := by simp [World.setCell]
    have F5 : Frm (fun k => k = p) W (W.setCell ⟨p, 1, none⟩ (.slice none 0 0)) := Frm.one W ⟨p, 1, none⟩ _
    have hK5 : (W.setCell ⟨p, 1, none⟩ (.slice none 0 0)).heap[D]? = some (.deferred (some [])) := (F5.block D (Array.getElem?_eq_some_iff.1 HK.out).1 (fun h => by omega)).trans HK.out
    have F6 : Frm (fun k => k = D) (W.setCell ⟨p, 1, none⟩ (.slice none 0 0)) ((W.setCell ⟨p, 1, none⟩ (.slice none 0 0)).putObj D (.deferred none)) := (Frm.of_grown (grownBy_putObj' _ D _)).mono (fun k _ h => by cases h; rfl)
    have hs6 := F6.size
    have hbig := HM.out.big
    have hv : ∀ b, vf1.ownBlock = some b → b ≠ p ∧ b ≠ D := fun b hb => by
      obtain ⟨cs, hbk⟩ := own_at O1.out hb
      refine ⟨fun e => hbk.ne K1.out (by decide) e, fun e => ?_⟩
      subst e
      unfold Blk at hbk
      rw [hbk] at HK; cases HK.out
    refine ⟨by simp, .inl ⟨_, _, rfl, run_takeDeferred hK5, ?_⟩⟩
    refine ⟨_, results_tmp rfl _ _ _, rfl, fun k => S k ∨ (w.heap.size ≤ k ∧ k < ((W.setCell ⟨p, 1, none⟩ (.slice none 0 0)).putObj D (.deferred none)).heap.size), ⟨⟨.slice none 0 0, vf1, (K1.out.set_ 1 (.slice none 0 0)).frm F6 (fun h => by omega), World.ownsRow_nil _ _ _ _, ?_, ?_, ?_, ?_⟩, .inl H.out.sS, H.out.hR⟩, fun _ h => h, ?_⟩
    · have := own_frm (own_frm O1.out F5 (fun b hb => (hv b hb).1)) F6 (fun b hb => (hv b hb).2)
      rw [bk_all] at this
      exact this
    · intro b hb; simp [Value.ownBlock] at hb
    · intro b hb; simp [Value.ownBlock] at hb
    · intro b hb
      have h3 := S1.out b hb
      rcases h3.2.2.1 with h | h
      · exact ⟨.inl h.1, by omega⟩
      · exact ⟨.inr ⟨by omega, by omega⟩, by omega⟩
    · refine (HM.out.frm.trans F5 (fun k _ h => h ▸ H.out.sS)).trans F6 (fun k hk h => by omega)
end Go.Proofs.Ytmbpilhngniigaa
