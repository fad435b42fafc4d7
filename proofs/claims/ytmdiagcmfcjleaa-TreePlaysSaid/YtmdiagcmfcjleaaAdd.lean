/- The tree's Add, by contract. -/
import Derived.Test.YtmdiagcmfcjleaaTree
namespace Go.Proofs.Ytmdiagcmfcjleaa
open Go.RowKit Go.Maps Go.Troupe

/-- What a call that changes the tree leaves. -/
def Left (p : Nat) (S : Nat → Prop) (M : List Mb) (w w' : World) : Prop := ∃ S', Tr w' p S' M ∧ (∀ k, S' k → S k ∨ w.heap.size ≤ k) ∧ Frm S w w'
theorem left_same {p : Nat} {S : Nat → Prop} {M : List Mb} {w : World} (h : Tr w p S M) : Left p S M w w := ⟨S, h, fun _ h => .inl h, Frm.refl _ _⟩
def Added (p : Nat) (S : Nat → Prop) (M : List Mb) (par id : Int) (w : World) (e : Ending) (w' : World) : Prop :=
  e = .returned (.int .i64 (addV M par id).2) ∧ Left p S (addV M par id).1 w w'
section
variable {p mp : Nat} {r : Int} {B : Int → Nat} {V : Int → Value} {M : List Mb} {S : Nat → Prop} {w w5 : World}
theorem hasV_mem {x : Mb} (h : x ∈ M) : hasV M x.1 = true := hasV_iff.2 ⟨x, h, rfl⟩
theorem TrB.neBlk (h : TrB w p r mp B V M) {x : Mb} (hx : x ∈ M) {b : Nat} {t : TypeId} {cs : List Value} (hb : Blk w b t cs) (ht : t ≠ 3) : ¬ (V x.1).ownBlock = some b := fun e => by
  obtain ⟨cs', hbk⟩ := own_at (h.mem x hx).2 e
  exact hbk.ne hb (Ne.symm ht) rfl
theorem TrB.neMap (h : TrB w p r mp B V M) {x : Mb} (hx : x ∈ M) : ¬ (V x.1).ownBlock = some mp := fun e => by
  obtain ⟨cs', hbk⟩ := own_at (h.mem x hx).2 e
  exact h.map.ne_blk hbk rfl
/-- Behind a member's being added below another one. -/
theorem add_mem {par id : Int} (h : TrB w p r mp B V M) (hid : 1 ≤ id) (hn : hasV M id = false) {u : Mb} (hu : u ∈ M) (hup : u.1 = par) {v' : Value} {nb : Nat} (hnb : w.heap.size ≤ nb)
    (hf : Frm (fun k => (V par).ownBlock = some k ∨ k = B par ∨ k = mp) w w5) (hb : Blk w5 (B par) 55 [.int .i64 u.2, v']) (ho : w5.ownsRow 0 3 1 v' ((kidsV M par).length + 1) (wordsI (kidsV M par ++ [id])))
    (hat : v'.ownBlock = (V par).ownBlock ∨ ∃ b, v'.ownBlock = some b ∧ w.heap.size ≤ b) (hnew : Blk w5 nb 55 [.int .i64 par, .slice none 0 0])
    (hmap : IMap w5 mp .i64 (M.length + 1) (upd (look M B) id (some (.pointer (some ⟨nb, 0, none⟩))))) :
    ∃ B' V', TrB w5 p r mp B' V' (M ++ [(id, par)]) ∧ ∀ k, Own p mp B' V' (M ++ [(id, par)]) k → Own p mp B V M k ∨ w.heap.size ≤ k := by
  have hne : ∀ x ∈ M, x.1 ≠ id := hasV_not.1 hn
  have hpar : par ≠ id := by rw [← hup]; exact hne u hu
  have hinj : ∀ x ∈ M, x.1 = par → x = u := fun x hx e => h.vd.inj x hx u hu (by rw [e, hup])
  have htop : Blk w5 p 52 [.int .i64 r, .map (some mp)] := h.top.frm hf (by
    rintro (e | e | e)
    · rw [← hup] at e; exact h.neBlk hu h.top (by decide) e
    · rw [← hup] at e; exact (h.top.ne (h.mem u hu).1 (by decide)) e
    · exact h.map.ne_blk h.top e.symm)
  have hvb : ∀ b, v'.ownBlock = some b → (V par).ownBlock = some b ∨ w.heap.size ≤ b := by
    intro b hb'
    rcases hat with e | ⟨b', e, hge⟩
    · exact .inl (e ▸ hb')
    · rw [e] at hb'; cases hb'; exact .inr hge
  refine ⟨fun k => if k = id then nb else B k, fun k => if k = id then .slice none 0 0 else if k = par then v' else V k, ⟨?_, htop, ?_, ?_, ?_, ?_⟩, ?_⟩
  · have h1 := h.root
    constructor
    · intro e
      rw [h1.1 e] at hu
      simp at hu
    · intro e; simp at e
  · rw [List.length_append]
    have e : upd (look M B) id (some (.pointer (some ⟨nb, 0, none⟩))) = look (M ++ [(id, par)]) (fun k => if k = id then nb else B k) := by
      funext k
      unfold look upd
      by_cases hk : k = id
      · subst hk
        simp [hasV]
      · have e1 : hasV (M ++ [(id, par)]) k = hasV M k := by
          unfold hasV
          rw [List.any_append]
          have : ((id : Int) == k) = false := beq_eq_false_iff_ne.2 (fun e => hk e.symm)
          simp [this]
        simp only [hk, if_false, e1]
    rw [← e]; exact hmap
  · intro x hx
    rcases List.mem_append.1 hx with hx | hx
    · have hxi := hne x hx
      rw [kidsV_snoc]
      simp only [hxi, if_false]
      by_cases hxp : x.1 = par
      · obtain rfl := hinj x hx hxp
        rw [hxp, if_pos rfl, if_pos rfl, List.length_append]
        exact ⟨hb, ho⟩
      · rw [if_neg hxp, if_neg (fun e => hxp e.symm)]
        refine ⟨(h.mem x hx).1.frm hf ?_, own_frm (h.mem x hx).2 hf ?_⟩
        · rintro (e | e | e)
          · rw [← hup] at e; exact h.neBlk hu (h.mem x hx).1 (by decide) e
          · rw [← hup] at e; exact (h.dis x hx u hu (by rw [hup]; exact hxp)).1 e
          · exact h.map.ne_blk (h.mem x hx).1 e.symm
        · rintro b hb' (e | e | e)
          · rw [← hup] at e; exact (h.dis x hx u hu (by rw [hup]; exact hxp)).2 b hb' e
          · rw [← hup] at e; rw [e] at hb'; exact h.neBlk hx (h.mem u hu).1 (by decide) hb'
          · rw [e] at hb'; exact h.neMap hx hb'
    · simp at hx
      subst hx
      rw [kidsV_snoc, if_neg hpar, kidsV_none h.vd hid hn]
      simp only [if_true]
      exact ⟨hnew, World.ownsRow_nil _ _ _ _⟩
  · intro x hx y hy hxy
    rcases List.mem_append.1 hx with hx | hx
    · have hxi := hne x hx
      rcases List.mem_append.1 hy with hy | hy
      · have hyi := hne y hy
        simp only [hxi, hyi, if_false]
        refine ⟨(h.dis x hx y hy hxy).1, fun b hb' => ?_⟩
        by_cases hxp : x.1 = par
        · have hyp : ¬ y.1 = par := fun e => hxy (hxp.trans e.symm)
          rw [if_pos hxp] at hb'
          rw [if_neg hyp]
          rcases hvb b hb' with h' | h'
          · rw [← hxp] at h'; exact (h.dis x hx y hy hxy).2 b h'
          · intro e; have := ((h.mem y hy).2.lt b e).2; omega
        · rw [if_neg hxp] at hb'
          by_cases hyp : y.1 = par
          · rw [if_pos hyp]
            intro e
            rcases hvb b e with h' | h'
            · rw [← hyp] at h'; exact (h.dis x hx y hy hxy).2 b hb' h'
            · have := ((h.mem x hx).2.lt b hb').2; omega
          · rw [if_neg hyp]; exact (h.dis x hx y hy hxy).2 b hb'
      · simp at hy; subst hy
        simp only [hxi, if_false, if_true]
        refine ⟨fun e => by have := (h.mem x hx).1.lt; omega, fun b _ e => by simp [Value.ownBlock] at e⟩
    · simp at hx; subst hx
      rcases List.mem_append.1 hy with hy | hy
      · have hyi := hne y hy
        simp only [hyi, if_false, if_true]
        refine ⟨fun e => by have := (h.mem y hy).1.lt; omega, fun b hb' => by simp [Value.ownBlock] at hb'⟩
      · simp at hy; subst hy
        exact absurd rfl hxy
  · have := addV_vd h.vd par id
    unfold addV at this
    rw [if_neg (by omega), if_neg (by rw [hn]; decide), if_neg (fun hh => by have := h.vd.pos u hu; rw [hup] at this; omega), if_neg (fun hh => by have := hasV_mem hu; rw [hup, hh.2] at this; cases this)] at this
    exact this
  · rintro k (rfl | rfl | ⟨x, hx, hk⟩)
    · exact .inl (.inl rfl)
    · exact .inl (.inr (.inl rfl))
    · rcases List.mem_append.1 hx with hx | hx
      · have hxi := hne x hx
        simp only [hxi, if_false] at hk
        rcases hk with rfl | hk
        · exact .inl (.inr (.inr ⟨x, hx, .inl rfl⟩))
        · by_cases hxp : x.1 = par
          · rw [if_pos hxp] at hk
            rcases hvb k hk with h' | h'
            · rw [← hxp] at h'; exact .inl (.inr (.inr ⟨x, hx, .inr h'⟩))
            · exact .inr h'
          · rw [if_neg hxp] at hk
            exact .inl (.inr (.inr ⟨x, hx, .inr hk⟩))
      · simp at hx; subst hx
        simp only [if_true] at hk
        rcases hk with rfl | hk
        · exact .inr hnb
        · simp [Value.ownBlock] at hk
end
theorem add_root {p mp : Nat} {id : Int} {w5 : World} (hid : 1 ≤ id) {nb : Nat} (htop : Blk w5 p 52 [.int .i64 id, .map (some mp)]) (hnew : Blk w5 nb 55 [.int .i64 0, .slice none 0 0])
    (hmap : IMap w5 mp .i64 1 (upd (look [] (fun _ => 0)) id (some (.pointer (some ⟨nb, 0, none⟩))))) :
    TrB w5 p id mp (fun _ => nb) (fun _ => .slice none 0 0) [(id, 0)] := by
  have hk0 : kidsV [(id, (0 : Int))] id = [] := by
    have : ¬ ((0 : Int) = id) := by omega
    simp [kidsV, this]
  refine ⟨⟨fun e => by omega, fun e => by simp at e⟩, htop, ?_, fun x hx => ?_, fun x hx y hy hxy => ?_, ⟨hid, by simp, .inl ⟨rfl, rfl⟩, trivial⟩⟩
  · have e : upd (look [] (fun _ => 0)) id (some (.pointer (some ⟨nb, 0, none⟩))) = look [(id, 0)] (fun _ => nb) := by
      funext k
      unfold look upd
      by_cases hk : k = id
      · subst hk; simp [hasV]
      · have : ((id : Int) == k) = false := beq_eq_false_iff_ne.2 (fun e => hk e.symm)
        simp [hasV, hk, this]
    rw [← e]; exact hmap
  · simp at hx; subst hx
    refine ⟨hnew, ?_⟩
    rw [hk0]; exact World.ownsRow_nil _ _ _ _
  · simp at hx hy; subst hx hy; exact absurd rfl hxy

section
variable {p : Nat} {S : Nat → Prop} {M : List Mb}
set_option maxRecDepth 100000 in
set_option maxHeartbeats 2000000 in
theorem add_any (par id : Int) (w : World) (h : Tr w p S M) (hlen : M.length ≤ 1000) : Calls Try.prog 16 #[.pointer (some ⟨p, 0, none⟩), .int .i64 par, .int .i64 id] w (Added p S M par id w) := by
  have HAS := Troupe.hid (has_any id w h)
  have H := Troupe.hid h
  obtain ⟨r, mp, B, V, h, hS⟩ := h
  have c0 : w.cell? ⟨p, 0, none⟩ = some (.int .i64 r) := h.top.cell 0
  have c1 : w.cell? ⟨p, 1, none⟩ = some (.map (some mp)) := h.top.cell 1
  have f0 : w.frozen? ⟨p, 0, none⟩ = false := h.top.frozen 0
  have HM := Troupe.hid h.map
  have HS := Troupe.hid hS
  have HT := Troupe.hid h
  obtain ⟨up, hup⟩ : ∃ up, up = (look M B par).getD (.pointer none) := ⟨_, rfl⟩
  have UP := Troupe.hid hup
  clear hS h hup
  by_cases h1 : id < 1
  · have RES : Hid (addV M par id = (M, 1)) := by unfold Hid addV; rw [if_pos h1]
    go_enter Try.func16, Try.ntmps16
    go_wp2_with (at_lookup; refine wpList_look rfl _ _ 50 rfl 3 56 Try.underlying50 Try.underlying3 _ (zero56 _) rfl HM.out _ rfl ?_; rw [← UP.out])
    go_ret
    unfold Added; rw [RES.out]
    exact ⟨rfl, left_same H.out⟩
  by_cases h2 : hasV M id = true
  · have RES : Hid (addV M par id = (M, 3)) := by unfold Hid addV; rw [if_neg h1, if_pos h2]
    rw [h2] at HAS
    clear h2
    go_enter Try.func16, Try.ntmps16
    go_wp2_with (at_lookup; refine wpList_look rfl _ _ 50 rfl 3 56 Try.underlying50 Try.underlying3 _ (zero56 _) rfl HM.out _ rfl ?_; rw [← UP.out])
    refine HAS.out.mono ?_
    rintro e w2 ⟨rfl, rfl⟩
    go_wp2_with fail
    go_ret
    unfold Added; rw [RES.out]
    exact ⟨rfl, left_same H.out⟩
  have h2' : hasV M id = false := by simpa using h2
  rw [h2'] at HAS
  have HN := Troupe.hid h2'
  have ID := Troupe.hid (show 1 ≤ id by omega)
  by_cases h3 : par = 0 ∧ M ≠ []
  · have RES : Hid (addV M par id = (M, 4)) := by unfold Hid addV; rw [if_neg h1, if_neg h2, if_pos h3]
    have hr : (r != 0) = true := bne_iff_ne.2 (fun e => h3.2 (HT.out.root.1 e))
    obtain ⟨rfl, _⟩ := h3
    clear h2 h2'
    go_enter Try.func16, Try.ntmps16
    go_wp2_with (at_lookup; refine wpList_look rfl _ _ 50 rfl 3 56 Try.underlying50 Try.underlying3 _ (zero56 _) rfl HM.out _ rfl ?_; rw [← UP.out])
    refine HAS.out.mono ?_
    rintro e w2 ⟨rfl, rfl⟩
    go_wp2_with fail
    go_ret
    unfold Added; rw [RES.out]
    exact ⟨rfl, left_same H.out⟩
  by_cases h4 : par = 0
  · have hM : M = [] := Classical.byContradiction fun hM => h3 ⟨h4, hM⟩
    subst h4
    subst hM
    have hr0 : r = 0 := HT.out.root.2 rfl
    subst hr0
    have RES : Hid (addV [] 0 id = ([(id, 0)], 0)) := by unfold Hid addV; rw [if_neg h1, if_neg (by simp [hasV]), if_neg (by simp), if_neg (by simp)]; rfl
    have htop := HT.out.top
    have t1 := htop.set_ 0 (.int .i64 id)
    have t2 := t1.alloc (.cells #[.int .i64 0, .slice none 0 0] 55)
    have m1 := HT.out.map.far (p := ⟨p, 0, none⟩) (fun e => HT.out.map.ne_blk htop e) (.int .i64 id)
    have m2 := m1.alloc (.cells #[.int .i64 0, .slice none 0 0] 55)
    have n2 : Blk ((w.setCell ⟨p, 0, none⟩ (.int .i64 id)).alloc (.cells #[.int .i64 0, .slice none 0 0] 55)) (w.setCell ⟨p, 0, none⟩ (.int .i64 id)).heap.size 55 [.int .i64 0, .slice none 0 0] := Blk.new _ 55 _
    have F2 : Frm (fun k => k = p) w ((w.setCell ⟨p, 0, none⟩ (.int .i64 id)).alloc (.cells #[.int .i64 0, .slice none 0 0] 55)) := (Frm.one w ⟨p, 0, none⟩ (.int .i64 id)).alloc _
    have hsz : (w.setCell ⟨p, 0, none⟩ (.int .i64 id)).heap.size = w.heap.size := by simp [World.setCell]
    have c2 : (w.setCell ⟨p, 0, none⟩ (.int .i64 id)).cell? ⟨p, 1, none⟩ = some (.map (some mp)) := t1.cell 1
    rw [hsz] at n2
    have T2 := Troupe.hid t2
    have M2 := Troupe.hid m2
    have N2 := Troupe.hid n2
    have FF := Troupe.hid F2
    have TP := Troupe.hid htop
    clear htop t1 t2 m1 m2 n2 F2 h2 h2' hsz h3
    go_enter Try.func16, Try.ntmps16
    go_wp2_with (at_lookup; refine wpList_look rfl _ _ 50 rfl 3 56 Try.underlying50 Try.underlying3 _ (zero56 _) rfl HM.out _ rfl ?_; rw [← UP.out])
    refine HAS.out.mono ?_
    rintro e w2 ⟨rfl, rfl⟩
    go_wp2_with (at_mapUpdate; refine wpList_put rfl _ _ _ 50 rfl 3 56 Try.underlying50 Try.underlying3 rfl M2.out _ rfl (.pointer (some ⟨w2.heap.size, 0, none⟩)) rfl ?_; intro w5 hm5 hf5; have M5 := Troupe.hid hm5; have F5 := Troupe.hid hf5; clear hm5 hf5)
    go_ret
    unfold Added
    rw [RES.out]
    have hTR : TrB w5 p id mp (fun _ => w2.heap.size) (fun _ => .slice none 0 0) [(id, 0)] := by
      refine add_root ID.out (T2.out.frm F5.out (fun e => HM.out.ne_blk TP.out e.symm)) (N2.out.frm F5.out (fun e => by have := HM.out.lt; omega)) ?_
      have := M5.out
      rw [show (look [] B id).isSome = false by simp [look, hasV]] at this
      have e : look [] B = look [] (fun _ => 0) := by funext k; simp [look, hasV]
      rw [e] at this
      simpa using this
    refine ⟨rfl, _, ⟨_, _, _, _, hTR, fun k hk => hk⟩, fun k hk => ?_, ?_⟩
    · rcases hk with rfl | rfl | ⟨x, hx, rfl | hk⟩
      · exact .inl (HS.out _ (.inl rfl))
      · exact .inl (HS.out _ (.inr (.inl rfl)))
      · exact .inr (Nat.le_refl _)
      · simp [Value.ownBlock] at hk
    · refine (FF.out.mono (S' := S) (fun k _ hk => by rw [hk]; exact HS.out _ (.inl rfl))).trans F5.out (fun k _ hk => by rw [hk]; exact HS.out _ (.inr (.inl rfl)))
  by_cases h5 : hasV M par = false
  · have RES : Hid (addV M par id = (M, 2)) := by unfold Hid addV; rw [if_neg h1, if_neg h2, if_neg h3, if_pos ⟨h4, h5⟩]
    have hup : up = .pointer none := by rw [UP.out]; exact look_not h5
    subst hup
    clear h2 h2' h3 h5
    have h4b : (par == 0) = false := beq_eq_false_iff_ne.2 h4
    clear h4
    go_enter Try.func16, Try.ntmps16
    go_wp2_with (at_lookup; refine wpList_look rfl _ _ 50 rfl 3 56 Try.underlying50 Try.underlying3 _ (zero56 _) rfl HM.out _ rfl ?_; rw [← UP.out])
    refine HAS.out.mono ?_
    rintro e w2 ⟨rfl, rfl⟩
    go_wp2_with fail
    go_ret
    unfold Added; rw [RES.out]
    exact ⟨rfl, left_same H.out⟩
  · have h5' : hasV M par = true := by simpa using h5
    obtain ⟨u, hu, hue⟩ := hasV_iff.1 h5'
    have RES : Hid (addV M par id = (M ++ [(id, par)], 0)) := by unfold Hid addV; rw [if_neg h1, if_neg h2, if_neg h3, if_neg (fun hh => h5 hh.2)]
    have hup : up = .pointer (some ⟨B par, 0, none⟩) := by rw [UP.out]; exact look_has h5'
    subst hup
    have hkl : (kidsV M par).length ≤ M.length := by unfold kidsV; rw [List.length_map]; exact List.length_filter_le _ _
    obtain ⟨m1, m2⟩ := HT.out.mem u hu
    rw [hue] at m1 m2
    obtain ⟨A, c, hV, -⟩ := own_form m2
    have hV2 := Troupe.hid hV
    have hpu : u.2 = u.2 := rfl
    have k1 : w.cell? ⟨B par, 1, none⟩ = some (.slice A (kidsV M par).length c) := by rw [m1.cell]; simp [hV]
    have h4b : (par == 0) = false := beq_eq_false_iff_ne.2 h4
    have F1 : Frm (fun _ => False) w (w.alloc (.cells #[.int .i64 id] 3)) := (Frm.refl _ w).alloc _
    have hw1 : (w.alloc (.cells #[.int .i64 id] 3)).heap.size = w.heap.size + 1 := by simp
    have T1 := Troupe.hid (HT.out.heap F1)
    have V1 : Hid ((w.alloc (.cells #[.int .i64 id] 3)).ownsRow 0 3 1 (.slice A (kidsV M par).length c) (kidsV M par).length (wordsI (kidsV M par))) := by rw [← hV]; exact own_frm m2 F1 (fun _ _ h => h)
    have C1 := Troupe.hid (show Cells (w.alloc (.cells #[.int .i64 id] 3)) (w.heap.size + 1) (some ⟨w.heap.size, 0, none⟩) [.int .i64 id] by
      have := Cells.blk (n := 1) (Blk.new w 3 [.int .i64 id]) (Nat.lt_succ_self w.heap.size); exact this)
    have FF1 := Troupe.hid F1
    have HU := Troupe.hid hu
    have HUE := Troupe.hid hue
    have NU := Troupe.hid (HT.out.neBlk hu HT.out.top (by decide))
    have NB := Troupe.hid (HT.out.neBlk hu (HT.out.mem u hu).1 (by decide))
    have NM := Troupe.hid (HT.out.neMap hu)
    have PB := Troupe.hid (HT.out.top.ne m1 (by decide))
    have MB : Hid (mp ≠ B par) := fun e => HT.out.map.ne_blk m1 e
    rw [hue, hV] at NU NB NM
    have m1' := m1
    rw [hV] at m1'
    have U1 := Troupe.hid (m1'.frm F1 (fun h => h))
    clear h2 h2' h3 h5 h5' h4 m1 m2 F1 hu hue hV hpu m1'
    go_enter Try.func16, Try.ntmps16
    go_wp2_with (at_lookup; refine wpList_look rfl _ _ 50 rfl 3 56 Try.underlying50 Try.underlying3 _ (zero56 _) rfl HM.out _ rfl ?_; rw [← UP.out])
    refine HAS.out.mono ?_
    rintro e w2 ⟨rfl, rfl⟩
    go_wp2_with (first
      | (at_builtin
         refine wpList_app rfl (.tmp 18) (.tmp 20) 25 rfl 0 3 info3 Try.underlying25 rfl (by decide) (.slice A (kidsV M par).length c) (kidsV M par).length _ rfl V1.out (w2.heap.size + 1) (some ⟨w2.heap.size, 0, none⟩) 1 1 [.int .i64 id] rfl rfl C1.out (fun h => by cases h) (by simp [Value.oneCell']) (by omega) (by unfold maxLen; omega) (Nat.zero_le _) ?_
         intro v3 w3 h3
         obtain ⟨A3, c3, rfl, -⟩ := own_form h3.own
         have hf3 : Frm (fun k => (Value.slice A (kidsV M par).length c).ownBlock = some k) w2 w3 := (FF1.out.mono (S' := fun k => (Value.slice A (kidsV M par).length c).ownBlock = some k) (fun _ _ h => h.elim)).trans h3.frm (fun _ _ h => h)
         have u3 := U1.out.frm h3.frm NB.out
         have u3c := u3.cell
         have u3f := u3.frozen
         have t3 := HT.out.top.frm hf3 NU.out
         have mp3 := HM.out.frm hf3 NM.out
         have t4 := t3.far (p := ⟨B par, 1, none⟩) PB.out (.slice A3 ((kidsV M par).length + 1) c3)
         have q1 : (w3.setCell ⟨B par, 1, none⟩ (.slice A3 ((kidsV M par).length + 1) c3)).cell? ⟨p, 1, none⟩ = some (.map (some mp)) := t4.cell 1
         have mp4 := mp3.far (p := ⟨B par, 1, none⟩) MB.out (.slice A3 ((kidsV M par).length + 1) c3)
         have MP5 := Troupe.hid (mp4.alloc (.cells #[.int .i64 par, .slice none 0 0] 55))
         have nb5 : Blk ((w3.setCell ⟨B par, 1, none⟩ (.slice A3 ((kidsV M par).length + 1) c3)).alloc (.cells #[.int .i64 par, .slice none 0 0] 55)) (w3.setCell ⟨B par, 1, none⟩ (.slice A3 ((kidsV M par).length + 1) c3)).heap.size 55 [.int .i64 par, .slice none 0 0] := Blk.new _ 55 _
         have hsz : (w3.setCell ⟨B par, 1, none⟩ (.slice A3 ((kidsV M par).length + 1) c3)).heap.size = w3.heap.size := by simp [World.setCell]
         rw [hsz] at nb5
         have NB5 := Troupe.hid nb5
         have F3 := Troupe.hid hf3
         have U3 := Troupe.hid u3
         have U5 := Troupe.hid ((u3.set_ 1 (.slice A3 ((kidsV M par).length + 1) c3)).alloc (.cells #[.int .i64 par, .slice none 0 0] 55))
         have FS : Hid (Frm (fun k => k = B par) w3 ((w3.setCell ⟨B par, 1, none⟩ (.slice A3 ((kidsV M par).length + 1) c3)).alloc (.cells #[.int .i64 par, .slice none 0 0] 55))) := (Frm.one w3 ⟨B par, 1, none⟩ _).alloc _
         have H3 := Troupe.hid h3
         clear h3 hf3 u3 t3 mp3 t4 mp4 nb5 hsz)
      | (at_mapUpdate; refine wpList_put rfl _ _ _ 50 rfl 3 56 Try.underlying50 Try.underlying3 rfl MP5.out _ rfl (.pointer (some ⟨w3.heap.size, 0, none⟩)) rfl ?_; intro w6 hm6 hf6; have M6 := Troupe.hid hm6; have F6 := Troupe.hid hf6; clear hm6 hf6))
    go_ret
    unfold Added
    rw [RES.out]
    have hs3 := F3.out.size
    have hsa : ((w3.setCell ⟨B par, 1, none⟩ (.slice A3 ((kidsV M par).length + 1) c3)).alloc (.cells #[.int .i64 par, .slice none 0 0] 55)).heap.size = w3.heap.size + 1 := by simp [World.setCell]
    have mlt := HM.out.lt
    have hfr : Frm (fun k => (V par).ownBlock = some k ∨ k = B par ∨ k = mp) w2 w6 := by
      rw [hV2.out]
      exact (((F3.out.mono (S' := fun k => (Value.slice A (kidsV M par).length c).ownBlock = some k ∨ k = B par ∨ k = mp) (fun _ _ h => .inl h)).trans FS.out (fun _ _ h => .inr (.inl h))).trans F6.out (fun _ _ h => .inr (.inr h)))
    have hme := M6.out
    rw [show (look M B id).isSome = false by simp [look, HN.out]] at hme
    have hown3 : (w3.setCell ⟨B par, 1, none⟩ (.slice A3 ((kidsV M par).length + 1) c3)).ownsRow 0 3 1 (.slice A3 ((kidsV M par).length + 1) c3) ((kidsV M par).length + 1) (wordsI (kidsV M par) ++ [.int .i64 id]) :=
      own_frm H3.out.own (Frm.one w3 ⟨B par, 1, none⟩ _) (fun b hb e => by
        obtain ⟨cs, hbk⟩ := own_at H3.out.own hb
        exact hbk.ne U3.out (by decide) e)
    have hown4 := own_frm hown3 ((Frm.refl (fun _ => False) _).alloc (.cells #[.int .i64 par, .slice none 0 0] 55)) (fun _ _ h => h)
    have hown6 := own_frm hown4 F6.out (fun b hb e => by
      obtain ⟨cs, hbk⟩ := own_at hown4 hb
      exact MP5.out.ne_blk hbk e.symm)
    obtain ⟨B', V', hTR, hOW⟩ := add_mem (w5 := w6) (v' := .slice A3 ((kidsV M par).length + 1) c3) (nb := w3.heap.size) HT.out ID.out HN.out HU.out HUE.out hs3 hfr (U5.out.frm F6.out (fun e => MB.out e.symm))
      (by have e : wordsI (kidsV M par ++ [id]) = wordsI (kidsV M par) ++ [.int .i64 id] := by simp [wordsI]
          rw [e]; exact hown6)
      (by rw [hV2.out]; exact H3.out.at_.imp_right fun h => ⟨_, h, by omega⟩)
      (NB5.out.frm F6.out (fun e => by omega)) (by simpa using hme)
    refine ⟨rfl, _, ⟨_, _, _, _, hTR, fun k hk => hk⟩, fun k hk => (hOW k hk).imp_left (HS.out k), hfr.mono (fun k _ hk => ?_)⟩
    rcases hk with hk | rfl | rfl
    · exact HS.out k (.inr (.inr ⟨u, HU.out, .inr (by rw [HUE.out]; exact hk)⟩))
    · exact HS.out _ (.inr (.inr ⟨u, HU.out, .inl (by rw [HUE.out])⟩))
    · exact HS.out _ (.inr (.inl rfl))
end
end Go.Proofs.Ytmdiagcmfcjleaa
