/- TreeFalls: the plain law and the walk. -/
import Derived.Test.YtmdiagcmfcjleaaPost
import Derived.Test.YtmdiagcmfcjleaaGrown
namespace Go.Proofs.Ytmdiagcmfcjleaa
open Go.RowKit Go.Maps Go.Troupe

/-- What is left when these are cut. -/
def rmV (M : List Mb) (l : List Int) : List Mb := M.filter fun x => !l.contains x.1
theorem rmV_nil (M : List Mb) : rmV M [] = M := by
  unfold rmV
  exact List.filter_eq_self.2 fun x _ => by simp
theorem rmV_take (M : List Mb) (L : List Int) (i : Nat) (y : Int) (h : L[i]? = some y) : rmV M (L.take (i + 1)) = (rmV M (L.take i)).filter fun x => x.1 != y := by
  unfold rmV
  rw [List.filter_filter]
  congr 1
  funext x
  rw [List.take_add_one, h, Bool.eq_iff_iff]
  simp only [List.contains_eq_mem, Option.toList_some, List.mem_append, List.mem_singleton, Bool.not_eq_true', decide_eq_false_iff_not, not_or, Bool.and_eq_true, bne_iff_ne, ne_eq]
  exact ⟨fun ⟨a, b⟩ => ⟨b, a⟩, fun ⟨a, b⟩ => ⟨b, a⟩⟩
theorem mem_rmV {M : List Mb} {l : List Int} {x : Mb} : x ∈ rmV M l ↔ x ∈ M ∧ x.1 ∉ l := by
  unfold rmV
  rw [List.mem_filter]
  simp
theorem hasV_rmV {M : List Mb} {l : List Int} {y : Int} (h : y ∈ l) : hasV (rmV M l) y = false :=
  hasV_not.2 fun x hx e => (mem_rmV.1 hx).2 (by rw [e]; exact h)
/-- The i-th of the order can be cut. -/
theorem cut_ith {M : List Mb} {L : List Int} (hnd : L.Nodup) (hhas : ∀ y ∈ L, hasV M y = true) (hgood : Good M L) {i : Nat} {y : Int} (hy : L[i]? = some y) :
    hasV (rmV M (L.take i)) y = true ∧ cutV (rmV M (L.take i)) y = (rmV M (L.take (i + 1)), 0) := by
  have hny : y ∉ L.take i := by
    intro h
    obtain ⟨j, hj⟩ := List.mem_iff_getElem?.1 h
    rw [List.getElem?_take] at hj
    split at hj
    · rename_i hji
      have := (List.getElem?_inj (List.getElem?_eq_some_iff.1 hj).1 hnd).1 (hj.trans hy.symm)
      omega
    · cases hj
  have h1 : hasV (rmV M (L.take i)) y = true := by
    obtain ⟨x, hx, e⟩ := hasV_iff.1 (hhas y (List.mem_of_getElem? hy))
    exact hasV_iff.2 ⟨x, mem_rmV.2 ⟨hx, by rw [e]; exact hny⟩, e⟩
  refine ⟨h1, ?_⟩
  have h2 : kidsV (rmV M (L.take i)) y = [] := by
    refine List.eq_nil_iff_forall_not_mem.2 fun k hk => ?_
    have hm := mem_rmV.1 (mem_kidsV.1 hk)
    exact hm.2 (hgood i y hy k (mem_kidsV.2 hm.1))
  unfold cutV
  rw [if_neg (by rw [h1]; decide), if_neg (fun h => h h2), rmV_take M L i y hy]
theorem Vd.rm : ∀ {M : List Mb} {L : List Int} (_ : Vd [] M) (_ : L.Nodup) (_ : ∀ y ∈ L, hasV M y = true) (_ : Good M L) (i : Nat), i ≤ L.length → Vd [] (rmV M (L.take i)) ∧ (rmV M (L.take i)).length + i = M.length
  | M, L, hM, _, _, _, 0, _ => by rw [List.take_zero, rmV_nil]; exact ⟨hM, rfl⟩
  | M, L, hM, h1, h2, h3, i + 1, hi => by
    obtain ⟨g1, g2⟩ := Vd.rm hM h1 h2 h3 i (by omega)
    obtain ⟨y, hy⟩ : ∃ y, L[i]? = some y := ⟨_, List.getElem?_eq_getElem (by omega)⟩
    obtain ⟨k1, k2⟩ := cut_ith h1 h2 h3 hy
    have := cutV_vd g1 y
    rw [k2] at this
    refine ⟨this, ?_⟩
    obtain ⟨x, hx, e⟩ := hasV_iff.1 k1
    have hl := len_filter g1 hx
    rw [e] at hl
    rw [rmV_take M L i y hy]
    omega

theorem below_facts {M : List Mb} (hM : Vd [] M) (id : Int) : (belowV M (M.length + 1) id).Nodup ∧ (∀ y ∈ belowV M (M.length + 1) id, hasV M y = true) ∧ Good M (belowV M (M.length + 1) id) ∧ (hasV M id = true → id ∈ belowV M (M.length + 1) id) := by
  unfold belowV
  by_cases h : hasV M id = true
  · rw [if_pos h]
    have hh := hgt_ex hM h
    exact ⟨post_nodup hM h, fun y hy => post_has h hy, post_good hh, fun _ => post_last hh⟩
  · rw [if_neg h]
    exact ⟨by simp, fun y hy => by simp at hy, fun i y hy => by simp at hy, fun h' => absurd h' h⟩
theorem post_not {M : List Mb} {id : Int} (h : hasV M id = false) (f : Nat) : belowV M f id = [] := by unfold belowV; rw [if_neg (by rw [h]; decide)]
set_option maxRecDepth 100000 in
set_option maxHeartbeats 8000000 in
theorem falls_walk (Ad : Option Addr) (len cap : Nat) (s : List Opt) (id : Int) (w : World) (hl : s.length = len) (hc : Cells w w.heap.size Ad (flatO s)) :
    Calls Try.prog 3 #[.slice Ad len cap, .int .i64 id] w fun e w' => e = .returned (.bool true) ∧ Below w.heap.size w w' := by
  have C0 := Troupe.hid hc
  clear hc
  go_enter Try.func3, Try.ntmps3
  go_wp2_with fail
  refine (alive_any w).mono ?_
  rintro e w1 ⟨rfl, hb⟩
  have B1 := Troupe.hid hb
  clear hb
  go_wp2_with fail
  refine (grown_any Ad len cap s w1 hl ((C0.out.below B1.out).mono B1.out.size)).mono ?_
  rintro e w2 ⟨p, A2, c2, ids, rfl, hg, _⟩
  have hML := growV_len (s.take 100) []
  rw [List.length_take, List.length_nil] at hML
  generalize growV [] (s.take 100) = M at hg hML
  have hML2 : M.length ≤ 100 := by omega
  obtain ⟨S, hT, hS, hbe, -, -⟩ := hg
  have T2 := Troupe.hid hT
  have S2 := Troupe.hid hS
  have B2 := Troupe.hid (B1.out.trans (hbe.mono B1.out.size))
  have S3 : Hid (∀ k, S k → w.heap.size ≤ k ∧ k < w2.heap.size) := fun k hk => ⟨by have := (hS k hk).1; have := B1.out.size; omega, (hS k hk).2⟩
  obtain ⟨h1, h2, h3, h4⟩ := below_facts hT.vd id
  obtain ⟨L, hL⟩ : ∃ L, L = belowV M (M.length + 1) id := ⟨_, rfl⟩
  rw [← hL] at h1 h2 h3 h4
  have rm := Troupe.hid (fun i hi => Vd.rm hT.vd h1 h2 h3 i hi)
  have CI := Troupe.hid (fun i y hy => cut_ith (i := i) (y := y) h1 h2 h3 hy)
  have hLl : L.length ≤ M.length := by have := (rm.out L.length (Nat.le_refl _)).2; omega
  have HL := Troupe.hid hL
  have H4 := Troupe.hid h4
  have BL : Hid (Calls Try.prog 10 #[.pointer (some ⟨p, 0, none⟩), .int .i64 id] w2 (Row w2 L)) := by
    by_cases h : hasV M id = true
    · have e : belowV M (M.length + 1) id = post M (M.length + 1) id := by unfold belowV; rw [if_pos h]
      have := below_any (p := p) (S := S) (M.length + 1) id w2 hT (fun h => hgt_ex hT.vd h) (by rw [← e, ← hL]; omega)
      rw [← hL] at this
      exact this
    · have h' : hasV M id = false := by simpa using h
      have := below_any (p := p) (S := S) 0 id w2 hT (fun hh => absurd hh h) (by simp [post])
      rw [post_not h'] at this
      rw [post_not h'] at hL
      rw [hL]; exact this
  have LN := Troupe.hid (len_any w2 hT)
  clear hT hS hbe h1 h2 h3 h4 hL hML
  go_wp2_with fail
  refine LN.out.mono ?_
  rintro e w3 ⟨rfl, rfl⟩
  go_wp2_with fail
  refine BL.out.mono ?_
  rintro e w4 ⟨A4, c4, rfl, ho, hb⟩
  have G4 : Hid (Gr w w4 p (rmV M (L.take 0)) (.slice A4 L.length c4) L) := by
    rw [List.take_zero, rmV_nil]
    have hs := hb.size
    exact ⟨S, T2.out.below hb, fun k hk => ⟨(S3.out k hk).1, by have := (S3.out k hk).2; omega⟩, B2.out.trans (hb.mono B2.out.size), Go.Joins.ownsRow_le ho B2.out.size, fun b hb' hSb => by have := (S3.out b hSb).2; have := (ho.lt b hb').1; omega⟩
  clear ho hb BL LN T2 S2 S3 B2
  go_wp2_with fail
  go_loopw [9] (fun v9 wr => ∃ i : Nat, v9 = .int .i64 i ∧ i ≤ L.length ∧ Gr w wr p (rmV M (L.take i)) (.slice A4 L.length c4) L) (fun v9 _ => L.length - (intOf v9).toNat)
  case atStart => exact ⟨0, rfl, Nat.zero_le _, G4.out⟩
  case round =>
    obtain ⟨i, rfl, hi, hg⟩ := hrel
    have G := Troupe.hid hg
    have hrl := (rm.out i hi).2
    clear hg
    by_cases hlt : i < L.length
    · obtain ⟨y, hy⟩ : ∃ y, L[i]? = some y := ⟨_, List.getElem?_eq_getElem hlt⟩
      have hxw := wordsI_at L i y hy
      obtain ⟨b1, o1, hA1, _, g1⟩ := (own_cells G.out.own).at_ (by intro e; rw [e] at hxw; simp at hxw)
      subst hA1
      have d1 : wr.cell? ⟨b1, o1 + i, none⟩ = some (.int .i64 y) := g1 i _ hxw
      obtain ⟨k1, k2⟩ := CI.out i y hy
      have CT := Troupe.hid (G.out.cut y (by omega))
      rw [k2] at CT
      have HXW := Troupe.hid hxw
      have YI : Hid (y ∈ L.take (i + 1)) := by
        unfold Hid
        rw [List.mem_iff_getElem?]
        exact ⟨i, by rw [List.getElem?_take, if_pos (by omega)]; exact hy⟩
      clear g1 hxw hy k1 k2
      dsimp only at CT
      go_wp2_with fail
      refine CT.out.mono ?_
      rintro e w5 ⟨rfl, hg5⟩
      have G5 := Troupe.hid hg5
      obtain ⟨b', o', hA', _, g2⟩ := (own_cells hg5.own).at_ (by intro e; have := HXW.out; rw [e] at this; simp at this)
      obtain ⟨rfl, rfl⟩ : b1 = b' ∧ o1 = o' := by simpa using hA'
      have d2 : w5.cell? ⟨b1, o1 + i, none⟩ = some (.int .i64 y) := g2 i _ HXW.out
      have HAS := Troupe.hid (hg5.ts.has y)
      rw [hasV_rmV YI.out] at HAS
      clear hg5 g2 hA' d1
      go_wp2_with fail
      refine HAS.out.mono ?_
      rintro e w6 ⟨rfl, rfl⟩
      go_wp2_with fail
      go_roundw
      case rel => exact ⟨i + 1, by go_num, by omega, G5.out⟩
      case measure => simp [intOf]; omega
    · obtain rfl : i = L.length := by omega
      have hid : hasV (rmV M (L.take L.length)) id = false := by
        rw [List.take_length]
        cases hv : hasV M id with
        | true => exact hasV_rmV (H4.out hv)
        | false => exact hasV_not.2 fun x hx e => hasV_not.1 hv x (mem_rmV.1 hx).1 e
      have TS := Troupe.hid G.out.ts
      have LN := Troupe.hid TS.out.len
      have HAS := Troupe.hid (TS.out.has id)
      rw [hid] at HAS
      have BL := Troupe.hid (TS.out.below_ 0 id (fun h => by rw [hid] at h; cases h) (by simp [post]))
      rw [post_not hid 0] at BL
      have hln : (M.length : Int) - (L.length : Int) = ((rmV M (L.take L.length)).length : Int) := by omega
      generalize (rmV M (L.take L.length)).length = q at *
      have u1 : IntKind.i64.wrap ((M.length : Int) - (L.length : Int)) = (q : Int) := by rw [IntKind.wrap_i64]; omega
      clear hid hln
      go_wp2_with fail
      refine LN.out.mono ?_
      rintro e w5 ⟨rfl, rfl⟩
      go_wp2_with fail
      refine HAS.out.mono ?_
      rintro e w5 ⟨rfl, rfl⟩
      go_wp2_with fail
      refine BL.out.mono ?_
      rintro e w6 ⟨A6, c6, rfl, _, hb⟩
      have B6 := Troupe.hid (TS.out.below hb).be
      clear hb
      go_wp2_with fail
      go_ret
      exact ⟨rfl, B6.out⟩
end Go.Proofs.Ytmdiagcmfcjleaa
