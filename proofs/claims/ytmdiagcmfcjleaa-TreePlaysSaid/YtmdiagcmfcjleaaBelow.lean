/- The tree's Below, by contract: the recursive closure. -/
import Derived.Test.YtmdiagcmfcjleaaCut
namespace Go.Proofs.Ytmdiagcmfcjleaa
open Go.RowKit Go.Maps Go.Troupe

/-- What is below a member, and itself: each behind all that are below it. -/
def post (M : List Mb) : Nat → Int → List Int
  | 0, _ => []
  | f + 1, id => (kidsV M id).flatMap (post M f) ++ [id]
/-- f is as high as the tree below id. -/
def Hgt (M : List Mb) : Nat → Int → Prop
  | 0, _ => False
  | f + 1, id => ∀ k ∈ kidsV M id, Hgt M f k
/-- While Below runs: the blocks of its own, and what it has so far. -/
structure Dn (w0 w : World) (p gt gd gs : Nat) (out : List Int) : Prop where
  be : Below w0.heap.size w0 w
  bt : Blk w gt 24 [.pointer (some ⟨p, 0, none⟩)]
  bd : Blk w gd 53 [.func (.func 22) #[] #[.pointer (some ⟨gt, 0, none⟩), .pointer (some ⟨gd, 0, none⟩), .pointer (some ⟨gs, 0, none⟩)]]
  lo : w0.heap.size ≤ gs
  ex : ∃ v, Blk w gs 25 [v] ∧ w.ownsRow w0.heap.size 3 1 v out.length (wordsI out)
theorem flatMap_take (g : Int → List Int) (l : List Int) (j : Nat) (x : Int) (h : l[j]? = some x) : (l.take (j + 1)).flatMap g = (l.take j).flatMap g ++ g x := by
  rw [List.take_add_one, h]
  simp
theorem flatMap_take_le (g : Int → List Int) (l : List Int) (j : Nat) : ((l.take j).flatMap g).length ≤ (l.flatMap g).length := by
  conv => rhs; rw [← List.take_append_drop j l]
  rw [List.flatMap_append, List.length_append]; omega
def Downed (w0 : World) (p gt gd gs : Nat) (out : List Int) (e : Ending) (w' : World) : Prop := e = .returned (.tuple #[]) ∧ Dn w0 w' p gt gd gs out
set_option maxRecDepth 100000 in
set_option maxHeartbeats 2000000 in
theorem down_any {M : List Mb} {p gt gd gs mp : Nat} {r : Int} {B : Int → Nat} {V : Int → Value} (w0 : World) (hT : TrB w0 p r mp B V M) : ∀ (f : Nat) (id : Int) (out : List Int) (w : World), Hgt M f id → hasV M id = true → out.length + (post M f id).length ≤ 1000000000 → Dn w0 w p gt gd gs out →
    Calls Try.prog 22 #[.int .i64 id, .pointer (some ⟨gt, 0, none⟩), .pointer (some ⟨gd, 0, none⟩), .pointer (some ⟨gs, 0, none⟩)] w (Downed w0 p gt gd gs (out ++ post M f id))
  | 0, id, out, w, hh, _, _, _ => hh.elim
  | f + 1, id, out, w, hh, hv, hsz, hd => by
    have IH := Troupe.hid (down_any w0 hT (gt := gt) (gd := gd) (gs := gs) f)
    obtain ⟨x, hx, rfl⟩ := hasV_iff.1 hv
    obtain ⟨m1, m2⟩ := hT.mem x hx
    obtain ⟨A, c, hV, hnc, hcm, -⟩ := own_form m2
    rw [hV] at m1 m2
    have hcm' : c ≤ 9223372036854775807 := hcm
    have C0 := Troupe.hid (own_cells m2)
    have c0 : w.cell? ⟨gt, 0, none⟩ = some (.pointer (some ⟨p, 0, none⟩)) := hd.bt.cell 0
    have c1 : w.cell? ⟨p, 1, none⟩ = some (.map (some mp)) := (hT.top.below hd.be hT.top.lt).cell 1
    have c2 : w.cell? ⟨B x.1, 1, none⟩ = some (.slice A (kidsV M x.1).length c) := (m1.below hd.be m1.lt).cell 1
    have LK := Troupe.hid (look_has (B := B) hv)
    have HM := Troupe.hid (hT.map.frm (Frm.of_below hd.be) (fun h => by have := hT.map.lt; omega))
    have DN := Troupe.hid hd
    have HH := Troupe.hid (show ∀ k ∈ kidsV M x.1, Hgt M f k from hh)
    have KM : Hid (∀ k ∈ kidsV M x.1, hasV M k = true) := fun k hk => hasV_mem (mem_kidsV.1 hk)
    have hpost : post M (f + 1) x.1 = (kidsV M x.1).flatMap (post M f) ++ [x.1] := rfl
    rw [hpost] at hsz ⊢
    rw [List.length_append, List.length_singleton] at hsz
    clear m1 m2 hV hh hd hv hx hpost
    generalize kidsV M x.1 = K at *
    have hK : K.length ≤ c := hnc
    go_enter Try.func22, Try.ntmps22
    go_wp2_with (at_lookup; refine wpList_look rfl _ _ 50 rfl 3 56 Try.underlying50 Try.underlying3 _ (zero56 _) rfl HM.out _ rfl ?_; rw [LK.out])
    clear c0 c1 c2
    go_loopw [6, 17] (fun _ v17 wr => ∃ j : Nat, j ≤ K.length ∧ v17 = .int .i64 j ∧ Dn w0 wr p gt gd gs (out ++ (K.take j).flatMap (post M f))) (fun _ v17 _ => K.length - (intOf v17).toNat)
    case atStart => exact ⟨0, Nat.zero_le _, rfl, by simpa using DN.out⟩
    case round =>
      obtain ⟨j, hj, rfl, hd⟩ := hrel
      have D := Troupe.hid hd
      by_cases hlt : j < K.length
      · obtain ⟨k, hk⟩ : ∃ k, K[j]? = some k := ⟨_, List.getElem?_eq_getElem hlt⟩
        have hxw := wordsI_at K j k hk
        obtain ⟨b1, o1, hA1, _, g1⟩ := (C0.out.below hd.be).at_ (by intro e; rw [e] at hxw; simp at hxw)
        subst hA1
        have d1 : wr.cell? ⟨b1, o1 + j, none⟩ = some (.int .i64 k) := g1 j _ hxw
        have d2 : wr.cell? ⟨gd, 0, none⟩ = some (.func (.func 22) #[] #[.pointer (some ⟨gt, 0, none⟩), .pointer (some ⟨gd, 0, none⟩), .pointer (some ⟨gs, 0, none⟩)]) := hd.bd.cell 0
        have hft := flatMap_take (post M f) K j k hk
        have hle := flatMap_take_le (post M f) K (j + 1)
        rw [hft, List.length_append] at hle
        have hmem := List.mem_of_getElem? hk
        have CL := Troupe.hid (IH.out k (out ++ (K.take j).flatMap (post M f)) wr (HH.out k hmem) (KM.out k hmem) (by rw [List.length_append]; omega) hd)
        have FT := Troupe.hid hft
        clear g1 hxw hk hft hle hmem hd
        go_wp2_with fail
        refine CL.out.mono ?_
        rintro e w2 ⟨rfl, hd2⟩
        have D2 := Troupe.hid hd2
        clear hd2 d1 d2
        go_wp2_with fail
        go_roundw
        case rel => exact ⟨j + 1, by omega, by go_num, by rw [FT.out, ← List.append_assoc]; exact D2.out⟩
        case measure => simp [intOf]; omega
      · obtain rfl : j = K.length := by omega
        have hle := flatMap_take_le (post M f) K K.length
        obtain ⟨v, k1, k2⟩ := hd.ex
        obtain ⟨A3, c3, rfl, -⟩ := own_form k2
        have q1 : wr.cell? ⟨gs, 0, none⟩ = some (.slice A3 (out ++ (K.take K.length).flatMap (post M f)).length c3) := k1.cell 0
        obtain ⟨L, hL⟩ : ∃ L, L = out ++ (K.take K.length).flatMap (post M f) := ⟨_, rfl⟩
        have hLl : L.length ≤ 1000000000 := by rw [hL, List.length_append]; omega
        rw [← hL] at q1 k1 k2
        have LE : Hid (out ++ (K.flatMap (post M f) ++ [x.1]) = L ++ [x.1]) := by unfold Hid; rw [hL, List.take_length, List.append_assoc]
        obtain ⟨q, hq⟩ : ∃ q, q = L.length := ⟨_, rfl⟩
        rw [← hq] at q1 k1 k2 hLl
        have F1 : Frm (fun _ => False) wr (wr.alloc (.cells #[.int .i64 x.1] 3)) := (Frm.refl _ wr).alloc _
        have V1 := Troupe.hid (own_frm k2 F1 (fun _ _ h => h))
        have K1 := Troupe.hid (k1.frm F1 (fun h => h))
        have BT1 := Troupe.hid (hd.bt.frm F1 (fun h => h))
        have BD1 := Troupe.hid (hd.bd.frm F1 (fun h => h))
        have BE1 := Troupe.hid (hd.be.trans (F1.below hd.be.size (fun _ h => h.elim)))
        have C1 := Troupe.hid (show Cells (wr.alloc (.cells #[.int .i64 x.1] 3)) (wr.heap.size + 1) (some ⟨wr.heap.size, 0, none⟩) [.int .i64 x.1] from Cells.blk (n := 1) (Blk.new wr 3 [.int .i64 x.1]) (Nat.lt_succ_self wr.heap.size))
        have hbe := hd.be.size
        have hlo := hd.lo
        have hw1 : (wr.alloc (.cells #[.int .i64 x.1] 3)).heap.size = wr.heap.size + 1 := by simp
        have HQ := Troupe.hid hq
        clear hd F1 k1 k2 hL hq
        go_wp2_with (at_builtin; refine wpList_app rfl (.tmp 25) (.tmp 27) 25 rfl w0.heap.size 3 info3 Try.underlying25 rfl (by decide) (.slice A3 q c3) q _ rfl V1.out (wr.heap.size + 1) (some ⟨wr.heap.size, 0, none⟩) 1 1 [.int .i64 x.1] rfl rfl C1.out (fun h => by cases h) (by simp [Value.oneCell']) (by omega) (by unfold maxLen; omega) (by omega) ?_; intro v2 w2 h2; obtain ⟨A4, c4, rfl, -⟩ := own_form h2.own; have k2 := K1.out.frm h2.frm (fun e => by (obtain ⟨cs, hbk⟩ := own_at V1.out e; exact hbk.ne K1.out (by decide) rfl)); have f2 := k2.frozen; have c2 := k2.cell; have K2 := Troupe.hid k2; have H2 := Troupe.hid h2; clear h2 k2)
        (try simp only [Exit.inBlock, Exit.then])
        refine bodyPost_end (results_none rfl _ _ _) rfl ?_
        have nt : ¬ (Value.slice A3 q c3).ownBlock = some gt := fun e => by
          obtain ⟨cs, hbk⟩ := own_at V1.out e
          exact hbk.ne BT1.out (by decide) rfl
        have nd : ¬ (Value.slice A3 q c3).ownBlock = some gd := fun e => by
          obtain ⟨cs, hbk⟩ := own_at V1.out e
          exact hbk.ne BD1.out (by decide) rfl
        have t2 := BT1.out.frm H2.out.frm nt
        have d2 := BD1.out.frm H2.out.frm nd
        rw [LE.out]
        refine ⟨rfl, (BE1.out.trans (H2.out.frm.below BE1.out.size (fun k hk => (V1.out.lt k hk).1))).setCell hlo _, t2.far (fun e => t2.ne K2.out (by decide) e) _, d2.far (fun e => d2.ne K2.out (by decide) e) _, hlo, _, K2.out.set_ 0 _, ?_⟩
        have e : wordsI (L ++ [x.1]) = wordsI L ++ [.int .i64 x.1] := by simp [wordsI]
        rw [e, List.length_append, List.length_singleton, ← HQ.out]
        exact own_frm H2.out.own (Frm.one w2 ⟨gs, 0, none⟩ _) (fun b hb e => by
          obtain ⟨cs, hbk⟩ := own_at H2.out.own hb
          exact hbk.ne K2.out (by decide) e)

/-- A row of numbers of the call's own. -/
def Row (w : World) (l : List Int) (e : Ending) (w' : World) : Prop :=
  ∃ A c, e = .returned (.slice A l.length c) ∧ w'.ownsRow w.heap.size 3 1 (.slice A l.length c) l.length (wordsI l) ∧ Below w.heap.size w w'
def belowV (M : List Mb) (f : Nat) (id : Int) : List Int := if hasV M id = true then post M f id else []
set_option maxRecDepth 100000 in
set_option maxHeartbeats 2000000 in
theorem below_any {M : List Mb} {p : Nat} {S : Nat → Prop} (f : Nat) (id : Int) (w : World) (h : Tr w p S M) (hh : hasV M id = true → Hgt M f id) (hsz : (post M f id).length ≤ 1000000000) :
    Calls Try.prog 10 #[.pointer (some ⟨p, 0, none⟩), .int .i64 id] w (Row w (belowV M f id)) := by
  have HAS := Troupe.hid (fun W => has_any (p := p) (S := S) (M := M) id W)
  obtain ⟨r, mp, B, V, h0, hS⟩ := h
  have s1 : (w.alloc (.cells #[.pointer (some ⟨p, 0, none⟩)] 24)).heap.size = w.heap.size + 1 := by simp
  have s2 : ((w.alloc (.cells #[.pointer (some ⟨p, 0, none⟩)] 24)).alloc (.cells #[.slice none 0 0] 25)).heap.size = w.heap.size + 1 + 1 := by simp
  have b1 : Below w.heap.size w (((w.alloc (.cells #[.pointer (some ⟨p, 0, none⟩)] 24)).alloc (.cells #[.slice none 0 0] 25)).alloc (.cells #[.nilFunc] 53)) := (((Below.refl _ _).alloc (Nat.le_refl _) _).alloc (by omega) _).alloc (by omega) _
  have k1 : Blk (((w.alloc (.cells #[.pointer (some ⟨p, 0, none⟩)] 24)).alloc (.cells #[.slice none 0 0] 25)).alloc (.cells #[.nilFunc] 53)) w.heap.size 24 [.pointer (some ⟨p, 0, none⟩)] := ((Blk.new w 24 [.pointer (some ⟨p, 0, none⟩)]).alloc _).alloc _
  have k2 : Blk (((w.alloc (.cells #[.pointer (some ⟨p, 0, none⟩)] 24)).alloc (.cells #[.slice none 0 0] 25)).alloc (.cells #[.nilFunc] 53)) (w.heap.size + 1) 25 [.slice none 0 0] := by
    have := (Blk.new (w.alloc (.cells #[.pointer (some ⟨p, 0, none⟩)] 24)) 25 [.slice none 0 0]).alloc (.cells #[.nilFunc] 53)
    rw [s1] at this; exact this
  have k3 : Blk (((w.alloc (.cells #[.pointer (some ⟨p, 0, none⟩)] 24)).alloc (.cells #[.slice none 0 0] 25)).alloc (.cells #[.nilFunc] 53)) (w.heap.size + 1 + 1) 53 [.nilFunc] := by
    have := Blk.new ((w.alloc (.cells #[.pointer (some ⟨p, 0, none⟩)] 24)).alloc (.cells #[.slice none 0 0] 25)) 53 [.nilFunc]
    rw [s2] at this; exact this
  have z1 : (((w.alloc (.cells #[.pointer (some ⟨p, 0, none⟩)] 24)).alloc (.cells #[.slice none 0 0] 25)).alloc (.cells #[.nilFunc] 53)).cell? ⟨w.heap.size + 1 + 1, 0, none⟩ = some .nilFunc := k3.cell 0
  have z2 : (((w.alloc (.cells #[.pointer (some ⟨p, 0, none⟩)] 24)).alloc (.cells #[.slice none 0 0] 25)).alloc (.cells #[.nilFunc] 53)).frozen? ⟨w.heap.size + 1 + 1, 0, none⟩ = false := k3.frozen 0
  have hst : (store ⟨w.heap.size + 1 + 1, 0, none⟩ (.func (.func 22) #[] #[.pointer (some ⟨w.heap.size, 0, none⟩), .pointer (some ⟨w.heap.size + 1 + 1, 0, none⟩), .pointer (some ⟨w.heap.size + 1, 0, none⟩)])).run Try.prog (((w.alloc (.cells #[.pointer (some ⟨p, 0, none⟩)] 24)).alloc (.cells #[.slice none 0 0] 25)).alloc (.cells #[.nilFunc] 53)) = .ok () ((((w.alloc (.cells #[.pointer (some ⟨p, 0, none⟩)] 24)).alloc (.cells #[.slice none 0 0] 25)).alloc (.cells #[.nilFunc] 53)).setCell ⟨w.heap.size + 1 + 1, 0, none⟩ (.func (.func 22) #[] #[.pointer (some ⟨w.heap.size, 0, none⟩), .pointer (some ⟨w.heap.size + 1 + 1, 0, none⟩), .pointer (some ⟨w.heap.size + 1, 0, none⟩)])) := by
    rw [run_store Try.prog _ _ _ _ rfl]
    simp only [z1, z2]
    rfl
  have b2 : Below w.heap.size w (((w.alloc (.cells #[.pointer (some ⟨p, 0, none⟩)] 24)).alloc (.cells #[.slice none 0 0] 25)).alloc (.cells #[.func (.func 22) #[] #[.pointer (some ⟨w.heap.size, 0, none⟩), .pointer (some ⟨w.heap.size + 1 + 1, 0, none⟩), .pointer (some ⟨w.heap.size + 1, 0, none⟩)]] 53)) := (((Below.refl _ _).alloc (Nat.le_refl _) _).alloc (by omega) _).alloc (by omega) _
  have h1 : Blk (((w.alloc (.cells #[.pointer (some ⟨p, 0, none⟩)] 24)).alloc (.cells #[.slice none 0 0] 25)).alloc (.cells #[.func (.func 22) #[] #[.pointer (some ⟨w.heap.size, 0, none⟩), .pointer (some ⟨w.heap.size + 1 + 1, 0, none⟩), .pointer (some ⟨w.heap.size + 1, 0, none⟩)]] 53)) w.heap.size 24 [.pointer (some ⟨p, 0, none⟩)] := ((Blk.new w 24 [.pointer (some ⟨p, 0, none⟩)]).alloc _).alloc _
  have h2 : Blk (((w.alloc (.cells #[.pointer (some ⟨p, 0, none⟩)] 24)).alloc (.cells #[.slice none 0 0] 25)).alloc (.cells #[.func (.func 22) #[] #[.pointer (some ⟨w.heap.size, 0, none⟩), .pointer (some ⟨w.heap.size + 1 + 1, 0, none⟩), .pointer (some ⟨w.heap.size + 1, 0, none⟩)]] 53)) (w.heap.size + 1) 25 [.slice none 0 0] := by
    have := (Blk.new (w.alloc (.cells #[.pointer (some ⟨p, 0, none⟩)] 24)) 25 [.slice none 0 0]).alloc (.cells #[.func (.func 22) #[] #[.pointer (some ⟨w.heap.size, 0, none⟩), .pointer (some ⟨w.heap.size + 1 + 1, 0, none⟩), .pointer (some ⟨w.heap.size + 1, 0, none⟩)]] 53)
    rw [s1] at this; exact this
  have h3 : Blk (((w.alloc (.cells #[.pointer (some ⟨p, 0, none⟩)] 24)).alloc (.cells #[.slice none 0 0] 25)).alloc (.cells #[.func (.func 22) #[] #[.pointer (some ⟨w.heap.size, 0, none⟩), .pointer (some ⟨w.heap.size + 1 + 1, 0, none⟩), .pointer (some ⟨w.heap.size + 1, 0, none⟩)]] 53)) (w.heap.size + 1 + 1) 53 [.func (.func 22) #[] #[.pointer (some ⟨w.heap.size, 0, none⟩), .pointer (some ⟨w.heap.size + 1 + 1, 0, none⟩), .pointer (some ⟨w.heap.size + 1, 0, none⟩)]] := by
    have := Blk.new ((w.alloc (.cells #[.pointer (some ⟨p, 0, none⟩)] 24)).alloc (.cells #[.slice none 0 0] 25)) 53 [.func (.func 22) #[] #[.pointer (some ⟨w.heap.size, 0, none⟩), .pointer (some ⟨w.heap.size + 1 + 1, 0, none⟩), .pointer (some ⟨w.heap.size + 1, 0, none⟩)]]
    rw [s2] at this; exact this
  have DN := Troupe.hid (show Dn w (((w.alloc (.cells #[.pointer (some ⟨p, 0, none⟩)] 24)).alloc (.cells #[.slice none 0 0] 25)).alloc (.cells #[.func (.func 22) #[] #[.pointer (some ⟨w.heap.size, 0, none⟩), .pointer (some ⟨w.heap.size + 1 + 1, 0, none⟩), .pointer (some ⟨w.heap.size + 1, 0, none⟩)]] 53)) p w.heap.size (w.heap.size + 1 + 1) (w.heap.size + 1) [] from ⟨b2, h1, h3, Nat.le_succ _, _, h2, World.ownsRow_nil _ _ _ _⟩)
  have HT := Troupe.hid (show Tr w p S M from ⟨r, mp, B, V, h0, hS⟩)
  have H0 := Troupe.hid h0
  have c1 : (((w.alloc (.cells #[.pointer (some ⟨p, 0, none⟩)] 24)).alloc (.cells #[.slice none 0 0] 25)).alloc (.cells #[.func (.func 22) #[] #[.pointer (some ⟨w.heap.size, 0, none⟩), .pointer (some ⟨w.heap.size + 1 + 1, 0, none⟩), .pointer (some ⟨w.heap.size + 1, 0, none⟩)]] 53)).cell? ⟨w.heap.size, 0, none⟩ = some (.pointer (some ⟨p, 0, none⟩)) := h1.cell 0
  have C2 := Troupe.hid (h2.cell 0)
  have HH := Troupe.hid hh
  clear hh k1 k2 k3 b1 b2 h1 h2 h3 h0 hS s1 s2
  go_enter Try.func10, Try.ntmps10
  go_wp2_with fail
  generalize (((w.alloc (.cells #[.pointer (some ⟨p, 0, none⟩)] 24)).alloc (.cells #[.slice none 0 0] 25)).alloc (.cells #[.func (.func 22) #[] #[.pointer (some ⟨w.heap.size, 0, none⟩), .pointer (some ⟨w.heap.size + 1 + 1, 0, none⟩), .pointer (some ⟨w.heap.size + 1, 0, none⟩)]] 53)) = W4 at *
  refine (HAS.out W4 (HT.out.below DN.out.be)).mono ?_
  rintro e w5 ⟨rfl, rfl⟩
  cases hv : hasV M id with
  | false =>
    have c2 : w5.cell? ⟨w.heap.size + 1, 0, none⟩ = some (.slice none 0 0) := C2.out
    go_wp2_with fail
    go_ret
    unfold belowV
    rw [if_neg (by rw [hv]; decide)]
    exact ⟨none, 0, rfl, World.ownsRow_nil _ _ _ _, DN.out.be⟩
  | true =>
    have c3 : w5.cell? ⟨w.heap.size + 1 + 1, 0, none⟩ = some (.func (.func 22) #[] #[.pointer (some ⟨w.heap.size, 0, none⟩), .pointer (some ⟨w.heap.size + 1 + 1, 0, none⟩), .pointer (some ⟨w.heap.size + 1, 0, none⟩)]) := DN.out.bd.cell 0
    have DW := Troupe.hid (down_any w H0.out f id [] w5 (HH.out hv) hv (by simpa using hsz) DN.out)
    clear c1
    go_wp2_with fail
    refine DW.out.mono ?_
    rintro e w6 ⟨rfl, hd⟩
    have BE := Troupe.hid hd.be
    obtain ⟨v, e1, e2⟩ := hd.ex
    obtain ⟨A, c, rfl, -⟩ := own_form e2
    have c4 : w6.cell? ⟨w.heap.size + 1, 0, none⟩ = some _ := e1.cell 0
    have E2 := Troupe.hid e2
    clear hd e1 e2 c3
    go_wp2_with fail
    go_ret
    refine ⟨A, c, ?_, ?_, BE.out⟩
    · unfold belowV; rw [if_pos hv]; rfl
    · unfold belowV; rw [if_pos hv]; exact E2.out
end Go.Proofs.Ytmdiagcmfcjleaa
