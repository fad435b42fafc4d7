/- A tree made since w0, and alive: the document's examples hold. (printed by genalive.py) -/
import Derived.Test.YtmdiagcmfcjleaaPath
namespace Go.Proofs.Ytmdiagcmfcjleaa
open Go.RowKit Go.Maps Go.Troupe

/-- A tree made since w0, what lay there untouched. -/
def Ts (w0 wk : World) (p : Nat) (M : List Mb) : Prop := ∃ S, Tr wk p S M ∧ (∀ k, S k → w0.heap.size ≤ k) ∧ Below w0.heap.size w0 wk
section
variable {w0 wk w' : World} {p : Nat} {M M' : List Mb}
theorem Ts.be (h : Ts w0 wk p M) : Below w0.heap.size w0 wk := by obtain ⟨S, _, _, h⟩ := h; exact h
theorem Ts.vd (h : Ts w0 wk p M) : Vd [] M := by obtain ⟨S, h, _⟩ := h; exact h.vd
theorem Ts.below (h : Ts w0 wk p M) (hb : Below wk.heap.size wk w') : Ts w0 w' p M := by
  obtain ⟨S, h1, h2, h3⟩ := h
  exact ⟨S, h1.below hb, h2, h3.trans (hb.mono h3.size)⟩
theorem Ts.left {S : Nat → Prop} (h2 : ∀ k, S k → w0.heap.size ≤ k) (h3 : Below w0.heap.size w0 wk) (hl : Left p S M' wk w') : Ts w0 w' p M' := by
  obtain ⟨S', g1, g2, g3⟩ := hl
  have hs := h3.size
  exact ⟨S', g1, fun k hk => (g2 k hk).elim (h2 k) (fun h => by omega), h3.trans (g3.below h3.size h2)⟩
theorem Ts.new (w : World) : Calls Try.prog 13 #[] w fun e w' => ∃ p, e = .returned (.pointer (some ⟨p, 0, none⟩)) ∧ Ts w w' p [] := by
  refine (new_any w).mono ?_
  rintro e w' ⟨p, rfl, h1, h2⟩
  exact ⟨p, rfl, _, h1, fun k hk => hk.1, h2⟩
theorem Ts.add (h : Ts w0 wk p M) (par id : Int) {e0 : Int} (hv : addV M par id = (M', e0)) (hl : M.length ≤ 1000) :
    Calls Try.prog 16 #[.pointer (some ⟨p, 0, none⟩), .int .i64 par, .int .i64 id] wk fun e w' => e = .returned (.int .i64 e0) ∧ Ts w0 w' p M' := by
  obtain ⟨S, h1, h2, h3⟩ := h
  refine (add_any par id wk h1 hl).mono ?_
  rintro e w' ⟨rfl, hlf⟩
  rw [hv] at hlf ⊢
  exact ⟨rfl, Ts.left h2 h3 hlf⟩
theorem Ts.cut (h : Ts w0 wk p M) (id : Int) {e0 : Int} (hv : cutV M id = (M', e0)) (hl : M.length ≤ 1000) :
    Calls Try.prog 11 #[.pointer (some ⟨p, 0, none⟩), .int .i64 id] wk fun e w' => e = .returned (.int .i64 e0) ∧ Ts w0 w' p M' := by
  obtain ⟨S, h1, h2, h3⟩ := h
  refine (cut_any id wk h1 hl).mono ?_
  rintro e w' ⟨rfl, hlf⟩
  rw [hv] at hlf ⊢
  exact ⟨rfl, Ts.left h2 h3 hlf⟩
theorem Ts.has (h : Ts w0 wk p M) (id : Int) : Calls Try.prog 12 #[.pointer (some ⟨p, 0, none⟩), .int .i64 id] wk fun e w' => e = .returned (.bool (hasV M id)) ∧ w' = wk := by
  obtain ⟨S, h1, _⟩ := h; exact has_any id wk h1
theorem Ts.len (h : Ts w0 wk p M) : Calls Try.prog 9 #[.pointer (some ⟨p, 0, none⟩)] wk fun e w' => e = .returned (.int .i64 M.length) ∧ w' = wk := by
  obtain ⟨S, h1, _⟩ := h; exact len_any wk h1
theorem Ts.kids (h : Ts w0 wk p M) (id : Int) (hl : M.length ≤ 1000) {l : List Int} (hv : kidsA M id = l) : Calls Try.prog 20 #[.pointer (some ⟨p, 0, none⟩), .int .i64 id] wk (Row wk l) := by
  obtain ⟨S, h1, _⟩ := h; rw [← hv]; exact kids_any id wk h1 hl
theorem Ts.path (h : Ts w0 wk p M) (id : Int) {l : List Int} (hc : Chain M id l) (hl : l.length ≤ 100000) : Calls Try.prog 18 #[.pointer (some ⟨p, 0, none⟩), .int .i64 id] wk (Row wk l.reverse) := by
  obtain ⟨S, h1, _⟩ := h; exact path_any id l wk h1 hc hl
theorem Ts.below_ (h : Ts w0 wk p M) (f : Nat) (id : Int) (hh : hasV M id = true → Hgt M f id) (hsz : (post M f id).length ≤ 1000000000) : Calls Try.prog 10 #[.pointer (some ⟨p, 0, none⟩), .int .i64 id] wk (Row wk (belowV M f id)) := by
  obtain ⟨S, h1, _⟩ := h; exact below_any f id wk h1 hh hsz
end
def hgtB (M : List Mb) : Nat → Int → Bool
  | 0, _ => false
  | f + 1, id => (kidsV M id).all (hgtB M f)
theorem hgt_of {M : List Mb} : ∀ {f : Nat} {id : Int}, hgtB M f id = true → Hgt M f id
  | 0, id, h => by cases h
  | f + 1, id, h => fun k hk => hgt_of (List.all_eq_true.1 h k hk)
theorem row_lit {w : World} {B : Nat} {l : List Int} {A : Option Addr} {c : Nat} (h : w.ownsRow B 3 1 (.slice A l.length c) l.length (wordsI l)) (xs : List Value) :
    (w.alloc (.cells xs.toArray 3)).ownsRow B 3 1 (.slice A l.length c) l.length (wordsI l) := own_frm h ((Frm.refl (fun _ => False) w).alloc _) (fun _ _ h => h)
theorem cells_lit (w : World) (l : List Int) : Cells (w.alloc (.cells (wordsI l).toArray 3)) (w.alloc (.cells (wordsI l).toArray 3)).heap.size (some ⟨w.heap.size, 0, none⟩) (wordsI l) := by
  have := Cells.blk (n := (wordsI l).length) (Blk.new w 3 (wordsI l)) (Blk.new w 3 (wordsI l)).lt
  rwa [List.take_length] at this

set_option maxRecDepth 100000 in
set_option maxHeartbeats 4000000 in
theorem alive_any (w : World) : Calls Try.prog 7 #[] w fun e w' => e = .returned (.bool true) ∧ Below w.heap.size w w' := by
  go_enter Try.func7, Try.ntmps7
  go_wp2_with fail
  refine (Ts.new w).mono ?_
  rintro e w1 ⟨p, rfl, h⟩
  have H1 := Troupe.hid h
  clear h
  go_wp2_with fail
  refine (H1.out.add 0 1 (M' := [(1, 0)]) (e0 := 0) (by decide) (by decide)).mono ?_
  rintro e w2 ⟨rfl, h⟩
  have H2 := Troupe.hid h
  clear h
  go_wp2_with fail
  refine (H2.out.add 1 2 (M' := [(1, 0), (2, 1)]) (e0 := 0) (by decide) (by decide)).mono ?_
  rintro e w3 ⟨rfl, h⟩
  have H3 := Troupe.hid h
  clear h
  go_wp2_with fail
  refine (H3.out.add 1 3 (M' := [(1, 0), (2, 1), (3, 1)]) (e0 := 0) (by decide) (by decide)).mono ?_
  rintro e w4 ⟨rfl, h⟩
  have H4 := Troupe.hid h
  clear h
  go_wp2_with fail
  refine (H4.out.add 2 4 (M' := [(1, 0), (2, 1), (3, 1), (4, 2)]) (e0 := 0) (by decide) (by decide)).mono ?_
  rintro e w5 ⟨rfl, h⟩
  have H5 := Troupe.hid h
  clear h
  go_wp2_with fail
  refine (H5.out.kids 1 (by decide) (l := [2, 3]) (by decide)).mono ?_
  rintro e w6 ⟨A5, c5, rfl, ho, hb⟩
  have H6 := Troupe.hid (H5.out.below hb)
  have R5 := Troupe.hid (row_lit ho (wordsI [2, 3]))
  have C5 := Troupe.hid (cells_lit w6 [2, 3])
  have F5 := Troupe.hid ((Below.refl w6.heap.size w6).alloc (Nat.le_refl _) (.cells (wordsI [2, 3]).toArray 3))
  clear ho hb
  go_wp2_with fail
  refine (ints_eq A5 2 c5 (some ⟨w6.heap.size, 0, none⟩) 2 [2, 3] (w6.alloc (.cells (wordsI [2, 3]).toArray 3)) rfl (by decide) (own_cells R5.out) C5.out).mono ?_
  rintro e w7 ⟨rfl, hb⟩
  have H7 := Troupe.hid (H6.out.below (F5.out.trans (hb.mono F5.out.size)))
  clear hb
  go_wp2_with fail
  refine (H7.out.path 4 (l := [4, 2, 1]) ⟨rfl, 2, by decide, rfl, 1, by decide, rfl, 0, by decide, (show hasV _ 0 = false by decide)⟩ (by decide)).mono ?_
  rintro e w8 ⟨A7, c7, rfl, ho, hb⟩
  have H8 := Troupe.hid (H7.out.below hb)
  have R7 := Troupe.hid (row_lit ho (wordsI [1, 2, 4]))
  have C7 := Troupe.hid (cells_lit w8 [1, 2, 4])
  have F7 := Troupe.hid ((Below.refl w8.heap.size w8).alloc (Nat.le_refl _) (.cells (wordsI [1, 2, 4]).toArray 3))
  clear ho hb
  go_wp2_with fail
  refine (ints_eq A7 3 c7 (some ⟨w8.heap.size, 0, none⟩) 3 [1, 2, 4] (w8.alloc (.cells (wordsI [1, 2, 4]).toArray 3)) rfl (by decide) (own_cells R7.out) C7.out).mono ?_
  rintro e w9 ⟨rfl, hb⟩
  have H9 := Troupe.hid (H8.out.below (F7.out.trans (hb.mono F7.out.size)))
  clear hb
  go_wp2_with fail
  refine (H9.out.below_ 3 1 (fun _ => hgt_of (by decide)) (by decide)).mono ?_
  rintro e w10 ⟨A9, c9, rfl, ho, hb⟩
  have H10 := Troupe.hid (H9.out.below hb)
  have R9 := Troupe.hid (row_lit ho (wordsI [4, 2, 3, 1]))
  have C9 := Troupe.hid (cells_lit w10 [4, 2, 3, 1])
  have F9 := Troupe.hid ((Below.refl w10.heap.size w10).alloc (Nat.le_refl _) (.cells (wordsI [4, 2, 3, 1]).toArray 3))
  clear ho hb
  go_wp2_with fail
  refine (ints_eq A9 4 c9 (some ⟨w10.heap.size, 0, none⟩) 4 [4, 2, 3, 1] (w10.alloc (.cells (wordsI [4, 2, 3, 1]).toArray 3)) rfl (by decide) (own_cells R9.out) C9.out).mono ?_
  rintro e w11 ⟨rfl, hb⟩
  have H11 := Troupe.hid (H10.out.below (F9.out.trans (hb.mono F9.out.size)))
  clear hb
  go_wp2_with fail
  refine (H11.out.cut 2 (M' := [(1, 0), (2, 1), (3, 1), (4, 2)]) (e0 := 6) (by decide) (by decide)).mono ?_
  rintro e w12 ⟨rfl, h⟩
  have H12 := Troupe.hid h
  clear h
  go_wp2_with fail
  refine (H12.out.cut 4 (M' := [(1, 0), (2, 1), (3, 1)]) (e0 := 0) (by decide) (by decide)).mono ?_
  rintro e w13 ⟨rfl, h⟩
  have H13 := Troupe.hid h
  clear h
  go_wp2_with fail
  refine (H13.out.cut 2 (M' := [(1, 0), (3, 1)]) (e0 := 0) (by decide) (by decide)).mono ?_
  rintro e w14 ⟨rfl, h⟩
  have H14 := Troupe.hid h
  clear h
  go_wp2_with fail
  refine (H14.out.add 0 9 (M' := [(1, 0), (3, 1)]) (e0 := 4) (by decide) (by decide)).mono ?_
  rintro e w15 ⟨rfl, h⟩
  have H15 := Troupe.hid h
  clear h
  go_wp2_with fail
  refine (H15.out.add 7 9 (M' := [(1, 0), (3, 1)]) (e0 := 2) (by decide) (by decide)).mono ?_
  rintro e w16 ⟨rfl, h⟩
  have H16 := Troupe.hid h
  clear h
  go_wp2_with fail
  refine (H16.out.add 1 3 (M' := [(1, 0), (3, 1)]) (e0 := 3) (by decide) (by decide)).mono ?_
  rintro e w17 ⟨rfl, h⟩
  have H17 := Troupe.hid h
  clear h
  go_wp2_with fail
  refine (H17.out.len).mono ?_
  rintro e w18 ⟨rfl, rfl⟩
  go_wp2_with fail
  go_ret
  exact ⟨rfl, H17.out.be⟩
end Go.Proofs.Ytmdiagcmfcjleaa
