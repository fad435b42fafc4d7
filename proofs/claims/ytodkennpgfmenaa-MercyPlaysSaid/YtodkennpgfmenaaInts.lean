/- Functions of package slices at ints, by contracts. -/
import Derived.Test.YtodkennpgfmenaaChecked
import Derived.Test.YtodkennpgfmenaaMem
import Derived.Lib.SliceRun
import Derived.Deep.CutRange
import Derived.Deep.CutBlock
namespace Go.Proofs.Ytodkennpgfmenaa
open Go.RowKit Go.Maps Go.Troupe

theorem info3 : (Try.prog.info? 3).map (fun i => (i.zero, i.size, i.bytes)) = some (some (.int .i64 0), 1, 8) := by kernel_rfl
theorem one_ints (q : IntKind) (l : List Int) : ∀ u ∈ l.map (Value.int q), u.oneCell' = true := by
  intro u hu
  obtain ⟨x, _, rfl⟩ := List.mem_map.1 hu
  rfl
def Cloned (w : World) (n : Nat) (l : List Int) (e : Ending) (w' : World) : Prop :=
  ∃ v, e = .returned v ∧ w'.ownsRow w.heap.size 3 1 v n (l.map (Value.int .i64)) ∧ Below w.heap.size w w'
set_option maxRecDepth 100000 in
theorem clone_any (Ad : Option Addr) (n c B : Nat) (l : List Int) (w : World) (hl : l.length = n) (hn : n ≤ 1000000000) (hc : Cells w B Ad (l.map (Value.int .i64))) (hA : Ad = none → n = 0 ∧ c = 0) :
    Calls Try.prog 22 #[.slice Ad n c] w (Cloned w n l) := by
  have hnil := fun W => Lib.run_eql_slice_nil (P := Try.prog) W 32 3 Ad n c 0 0 Try.underlying32
  cases Ad with
  | none =>
    obtain ⟨rfl, rfl⟩ := hA rfl
    obtain rfl : l = [] := List.eq_nil_of_length_eq_zero hl
    simp only [Option.isNone_none] at hnil
    go_enter Try.func22, Try.ntmps22
    go_wp2_with fail
    go_ret
    exact ⟨.slice none 0 0, rfl, World.ownsRow_nil _ _ _ _, Below.refl _ _⟩
  | some ad =>
    simp only [Option.isNone_some] at hnil
    have hblk := Blk.new w 3 []
    have hown : (w.alloc (.cells #[] 3)).ownsRow w.heap.size 3 1 (.slice (some ⟨w.heap.size, 0, none⟩) 0 0) 0 [] := by
      have := blk_own (base := w.heap.size) (n := 0) (cap := 0) (size := 1) hblk (by simp) (Nat.le_refl _) (Nat.le_refl _) (by simp [maxLen])
      simpa using this
    have hc1 : Cells (w.alloc (.cells #[] 3)) B (some ad) (l.map (Value.int .i64)) := hc.keep fun p _ u hu => by
      rw [← hu]
      exact World.cell?_of_block (Below.heap_alloc _ _ _ (by
        rcases Nat.lt_or_ge p.block w.heap.size with h | h
        · exact h
        · unfold World.cell? at hu; rw [Array.getElem?_eq_none h] at hu; cases hu))
    have OWN := Troupe.hid hown
    have C1 := Troupe.hid hc1
    have LEN : Hid ((l.map (Value.int .i64)).length = n * 1) := by unfold Hid; simp [hl]
    clear hblk hown hc1 hc
    go_enter Try.func22, Try.ntmps22
    go_wp2_with (at_builtin; refine wpList_app rfl (.tmp 5) (.tmp 6) 32 rfl w.heap.size 3 info3 Try.underlying32 rfl (by decide) (.slice (some ⟨w.heap.size, 0, none⟩) 0 0) 0 [] rfl OWN.out B (some ad) n c (l.map (Value.int .i64)) rfl LEN.out C1.out (fun h => by cases h) (one_ints _ _) (by omega) (by unfold maxLen; omega) (by simp) ?_; intro v' w' h'; have H := Troupe.hid h'; clear h')
    go_ret
    refine ⟨v', rfl, ?_, ?_⟩
    · have := H.out.own
      simpa using this
    · refine ((((Below.refl _ _).alloc (Nat.le_refl _) _).trans (H.out.frm.below (by simp) (fun k hk => ?_))))
      simp [Value.ownBlock] at hk
      omega

def idxZ (l : List Int) (p : Int → Bool) : Int := match l.findIdx? p with | some i => i | none => -1
theorem idx_none {l : List Int} {p : Int → Bool} (h : ∀ x ∈ l, p x = false) : idxZ l p = -1 := by
  have : l.findIdx? p = none := List.findIdx?_eq_none_iff.2 h
  simp [idxZ, this]
theorem idx_some {l : List Int} {p : Int → Bool} {i : Nat} {x : Int} (hx : l[i]? = some x) (h : p x = true) (hl : ∀ y ∈ l.take i, p y = false) : idxZ l p = i := by
  have : l.findIdx? p = some i := by
    have hi := (List.getElem?_eq_some_iff.1 hx).1
    rw [List.findIdx?_eq_some_iff_getElem]
    refine ⟨hi, by rw [(List.getElem?_eq_some_iff.1 hx).2]; exact h, fun j hj => ?_⟩
    have := hl (l[j]'(by omega)) (by
      rw [List.mem_iff_getElem?]
      exact ⟨j, by rw [List.getElem?_take, if_pos hj]; simp⟩)
    simp [this]
  simp [idxZ, this]
def Idx (w : World) (l : List Int) (p : Int → Bool) (e : Ending) (w' : World) : Prop := e = .returned (.int .i64 (idxZ l p)) ∧ Below w.heap.size w w'
set_option maxRecDepth 100000 in
theorem indexFunc_any (bn bb : Nat) (Ad : Option Addr) (n c B : Nat) (l : List Int) (p : Int → Bool) (w : World) (hl : l.length = n) (hn : n ≤ 1000000000) (hc : Cells w B Ad (l.map (Value.int .i64))) (hB : B ≤ w.heap.size)
    (HK : ∀ (t : Int) (w' : World), Below w.heap.size w w' → Calls Try.prog 23 #[.int .i64 t, .pointer (some ⟨bn, 0, none⟩), .pointer (some ⟨bb, 0, none⟩)] w' fun e w'' => e = .returned (.bool (p t)) ∧ Below w'.heap.size w' w'') :
    Calls Try.prog 24 #[.slice Ad n c, .func (.func 23) #[] #[.pointer (some ⟨bn, 0, none⟩), .pointer (some ⟨bb, 0, none⟩)]] w (Idx w l p) := by
  have HH := Troupe.hid HK
  clear HK
  go_enter Try.func24, Try.ntmps24
  go_wp2_with fail
  go_loopw [8] (fun i wr => ∃ j : Nat, j ≤ n ∧ i = .int .i64 j ∧ (∀ y ∈ l.take j, p y = false) ∧ Below w.heap.size w wr) (fun i _ => n - (intOf i).toNat)
  case atStart => exact ⟨0, Nat.zero_le _, rfl, by simp, Below.refl _ _⟩
  case round =>
    obtain ⟨j, hj, rfl, hno, hb⟩ := hrel
    have NO := Troupe.hid hno
    have HB := Troupe.hid hb
    have C1 := Troupe.hid ((hc.mono hB).below hb)
    clear hno hb
    by_cases hlt : j < n
    · obtain ⟨x, hx⟩ : ∃ x, l[j]? = some x := ⟨_, List.getElem?_eq_getElem (by omega)⟩
      obtain ⟨b, off, rfl, _, h1⟩ := C1.out.at_ (by intro e; have := congrArg List.length e; simp at this; subst this; simp at hx)
      have c0 : wr.cell? ⟨b, off + j, none⟩ = some (.int .i64 x) := h1 j _ (by simp [hx])
      have X := Troupe.hid hx
      clear h1 hx
      go_wp2_with fail
      refine (HH.out x wr HB.out).mono ?_
      rintro e w2 ⟨rfl, hb2⟩
      have B2 := Troupe.hid (HB.out.trans (hb2.mono HB.out.size))
      clear hb2
      by_cases hp : p x = true
      · simp only [hp]
        have FIN := Troupe.hid (idx_some X.out hp NO.out)
        clear hp
        go_wp2_with fail
        go_ret
        exact ⟨by rw [FIN.out]; rfl, B2.out⟩
      · have hp' : p x = false := by simpa using hp
        simp only [hp']
        have NO2 : Hid (∀ y ∈ l.take (j + 1), p y = false) := by
          intro y hy
          rw [List.take_add_one, X.out] at hy
          rcases List.mem_append.1 hy with h | h
          · exact NO.out y h
          · simp at h; subst h; exact hp'
        clear hp hp'
        go_wp2_with fail
        go_roundw
        case rel => exact ⟨j + 1, by omega, by go_num, NO2.out, B2.out⟩
        case measure => simp [intOf]; omega
    · have hall : idxZ l p = -1 := idx_none (by have h := NO.out; rwa [List.take_of_length_le (by omega)] at h)
      have FIN := Troupe.hid hall
      clear hall
      go_wp2_with fail
      go_ret
      exact ⟨by rw [FIN.out]; rfl, HB.out⟩

theorem idx_cases (l : List Int) (p : Int → Bool) : (idxZ l p = -1 ∧ ∀ x ∈ l, p x = false) ∨ ∃ i x, idxZ l p = (i : Nat) ∧ l[i]? = some x ∧ p x = true ∧ ∀ y ∈ l.take i, p y = false := by
  unfold idxZ
  cases h : l.findIdx? p with
  | none => exact .inl ⟨rfl, List.findIdx?_eq_none_iff.1 h⟩
  | some i =>
    obtain ⟨hi, h1, h2⟩ := List.findIdx?_eq_some_iff_getElem.1 h
    refine .inr ⟨i, l[i], rfl, List.getElem?_eq_getElem hi, h1, fun y hy => ?_⟩
    obtain ⟨j, hj⟩ := List.mem_iff_getElem?.1 hy
    rw [List.getElem?_take] at hj
    split at hj
    · rename_i hji
      have := h2 j hji
      rw [List.getElem?_eq_getElem (by omega)] at hj
      cases hj
      simpa using this
    · cases hj
def keep (l : List Int) (p : Int → Bool) : List Int := l.filter fun x => !p x
theorem keep_le (l : List Int) (p : Int → Bool) : (keep l p).length ≤ l.length := List.length_filter_le _ _
theorem keep_all {l : List Int} {p : Int → Bool} (h : ∀ x ∈ l, p x = false) : keep l p = l := List.filter_eq_self.2 fun x hx => by simp [h x hx]
theorem keep_snoc {l : List Int} {p : Int → Bool} {j : Nat} {x : Int} (hx : l[j]? = some x) : keep (l.take (j + 1)) p = keep (l.take j) p ++ (if p x then [] else [x]) := by
  unfold keep
  rw [List.take_add_one, hx, List.filter_append]
  by_cases h : p x <;> simp [h]
def Deleted (Ad : Option Addr) (n c base : Nat) (l : List Int) (p : Int → Bool) (w : World) (e : Ending) (w' : World) : Prop :=
  e = .returned (.slice Ad (keep l p).length c) ∧ w'.ownsRow base 3 1 (.slice Ad (keep l p).length c) (keep l p).length ((keep l p).map (Value.int .i64)) ∧
    Frm (fun k => (Value.slice Ad n c).ownBlock = some k) w w'
theorem zeroE3 (w : World) : (zeroValue 3).run Try.prog w = .ok (.int .i64 0) w := by kernel_rfl
set_option maxRecDepth 100000 in
set_option maxHeartbeats 400000 in
theorem deleteFunc_any (bn bb : Nat) (Ad : Option Addr) (n c base : Nat) (l : List Int) (p : Int → Bool) (w : World) (hl : l.length = n) (hn : n ≤ 1000000000) (hown : w.ownsRow base 3 1 (.slice Ad n c) n (l.map (Value.int .i64)))
    (HK : ∀ (t : Int) (w' : World), Frm (fun k => (Value.slice Ad n c).ownBlock = some k) w w' → Calls Try.prog 23 #[.int .i64 t, .pointer (some ⟨bn, 0, none⟩), .pointer (some ⟨bb, 0, none⟩)] w' fun e w'' => e = .returned (.bool (p t)) ∧ Below w'.heap.size w' w'') :
    Calls Try.prog 21 #[.slice Ad n c, .func (.func 23) #[] #[.pointer (some ⟨bn, 0, none⟩), .pointer (some ⟨bb, 0, none⟩)]] w (Deleted Ad n c base l p w) := by
  have hcells : Cells w w.heap.size Ad (l.map (Value.int .i64)) := by
    obtain ⟨A', c', e, _, _, h, _⟩ := own_form hown
    cases e
    exact h
  have HI := Troupe.hid (indexFunc_any bn bb Ad n c w.heap.size l p w hl hn hcells (Nat.le_refl _) (fun t w' h => HK t w' ((Frm.of_below h).mono (fun k hk hs => absurd hk (by omega)))))
  have HH := Troupe.hid HK
  have OWN := Troupe.hid hown
  have HL := Troupe.hid hl
  clear HK hcells hown hl
  go_enter Try.func21, Try.ntmps21
  go_wp2_with fail
  refine HI.out.mono ?_
  rintro e w1 ⟨rfl, hb1⟩
  have B1 := Troupe.hid hb1
  clear hb1
  rcases idx_cases l p with ⟨h1, h2⟩ | ⟨i0, x0, h1, hx0, hp0, hno⟩
  · rw [h1]
    have FIN := Troupe.hid (keep_all h2)
    clear h1 h2
    go_wp2_with fail
    go_ret
    refine ⟨?_, ?_, ?_⟩
    · rw [FIN.out, HL.out]; rfl
    · rw [FIN.out, HL.out]
      exact own_frm OWN.out (Frm.of_below B1.out) (fun k hk => by have := OWN.out.lt k hk; omega)
    · exact (Frm.of_below B1.out).mono (fun k hk hs => absurd hk (by omega))
  · rw [h1]
    have hi0 : i0 < n := by have := (List.getElem?_eq_some_iff.1 hx0).1; have := HL.out; omega
    rcases own_blk OWN.out with ⟨_, h0, _⟩ | ⟨g, cs0, rfl, hbk, hcl, hbg, hqc, hcm, htk⟩
    · omega
    have G : Hid (g < w.heap.size) := hbk.lt
    have BK := Troupe.hid (hbk.below B1.out hbk.lt)
    have CL := Troupe.hid hcl
    have TK : Hid (∀ (j : Nat) (x : Int), l[j]? = some x → cs0[j]? = some (Value.int .i64 x)) := by
      intro j x hx
      have hj : j < n := by have := (List.getElem?_eq_some_iff.1 hx).1; have := HL.out; omega
      have h : (cs0.take (n * 1))[j]? = some (.int .i64 x) := by rw [htk]; simp [hx]
      rw [List.getElem?_take, if_pos (by omega)] at h
      exact h
    have K0 : Hid (keep (l.take (i0 + 1)) p = l.take i0) := by
      unfold Hid
      rw [keep_snoc hx0, keep_all hno, if_pos hp0, List.append_nil]
    have T0 : Hid ((l.take i0).length = i0) := by unfold Hid; rw [List.length_take]; have := HL.out; omega
    clear hbk hcl htk hx0 hp0 hno h1
    have hi1 : ((i0 : Int) == -1) = false := by rw [beq_eq_false_iff_ne]; omega
    go_upto_block 0 with (fail)
    go_cut [5] from 16 to 35 (fun v5 w' => v5 = .int .i64 (keep l p).length ∧ (∃ cs, Blk w' g 3 cs ∧ cs.length = c ∧ cs.take (keep l p).length = (keep l p).map (Value.int .i64)) ∧ (keep l p).length < n ∧ Frm (fun k => k = g) w w')
    case first =>
      go_wp2_with fail
      go_loopw [5, 6] (fun v5 v6 wr => ∃ (j : Nat) (cs : List Value), j ≤ n ∧ v6 = .int .i64 j ∧ v5 = .int .i64 (keep (l.take j) p).length ∧ (keep (l.take j) p).length < j ∧ Blk wr g 3 cs ∧ cs.length = c ∧
          cs.take (keep (l.take j) p).length = (keep (l.take j) p).map (Value.int .i64) ∧ (∀ t, j ≤ t → cs[t]? = cs0[t]?) ∧ Frm (fun k => k = g) w wr) (fun _ v6 _ => n - (intOf v6).toNat)
      case atStart =>
        have e : (keep (l.take (i0 + 1)) p).length = i0 := by rw [K0.out, T0.out]
        refine ⟨i0 + 1, cs0, by omega, by go_num, by rw [e], by omega, BK.out, by have := CL.out; omega, ?_, fun _ _ => rfl, (Frm.of_below B1.out).mono (fun k hk hs => absurd hk (by omega))⟩
        rw [e, K0.out]
        apply List.ext_getElem?
        intro t
        rw [List.getElem?_take, List.getElem?_map, List.getElem?_take]
        split
        · rename_i ht
          obtain ⟨x, hx⟩ : ∃ x, l[t]? = some x := ⟨_, List.getElem?_eq_getElem (by have := HL.out; omega)⟩
          rw [TK.out t x hx, hx]; rfl
        · rfl
      case round =>
        obtain ⟨j, cs, hj, rfl, rfl, hij, hbk, hcl, htk, hrest, hf⟩ := hrel
        by_cases hlt : j < n
        · obtain ⟨x, hx⟩ : ∃ x, l[j]? = some x := ⟨_, List.getElem?_eq_getElem (by have := HL.out; omega)⟩
          have cx : wr.cell? ⟨g, j, none⟩ = some (.int .i64 x) := (hbk.cell j).trans ((hrest j (Nat.le_refl _)).trans (TK.out j x hx))
          have hsn := keep_snoc (p := p) hx
          have BKr := Troupe.hid hbk
          have CLr := Troupe.hid hcl
          have TKr := Troupe.hid htk
          have RE := Troupe.hid hrest
          have F := Troupe.hid hf
          have SN := Troupe.hid hsn
          clear hbk hcl htk hrest hf hsn hx
          go_wp2_with fail
          refine (HH.out x wr (F.out.mono (fun k _ hk => by simp [Value.ownBlock, hk]))).mono ?_
          rintro e w2 ⟨rfl, hb2⟩
          have F2 := Troupe.hid (F.out.trans (S := fun k => k = g) (Frm.of_below hb2) (fun k hk hs => by have := F.out.size; omega))
          have B2 := Troupe.hid (BKr.out.below hb2 BKr.out.lt)
          clear hb2 cx
          by_cases hp : p x = true
          · rw [hp]
            have hs : keep (l.take (j + 1)) p = keep (l.take j) p := by rw [SN.out, if_pos hp, List.append_nil]
            have S := Troupe.hid hs
            clear hs hp
            go_wp2_with fail
            go_roundw
            case rel => exact ⟨j + 1, cs, by omega, by go_num, by rw [S.out], by rw [S.out]; omega, B2.out, CLr.out, by rw [S.out]; exact TKr.out, fun t ht => RE.out t (by omega), F2.out⟩
            case measure => simp [intOf]; omega
          · have hp' : p x = false := by simpa using hp
            rw [hp']
            have hs : keep (l.take (j + 1)) p = keep (l.take j) p ++ [x] := by rw [SN.out, hp']; rfl
            have S := Troupe.hid hs
            have hS : (keep (l.take (j + 1)) p).length = (keep (l.take j) p).length + 1 := by rw [hs]; simp
            have SL := Troupe.hid hS
            obtain ⟨u, hu⟩ : ∃ u, cs[(keep (l.take j) p).length]? = some u := ⟨_, List.getElem?_eq_getElem (by have := CLr.out; omega)⟩
            have cu : w2.cell? ⟨g, (keep (l.take j) p).length, none⟩ = some u := (B2.out.cell _).trans hu
            have fu := B2.out.frozen
            clear hs hp hp' hS hu
            go_wp2_with fail
            go_roundw
            case rel =>
              refine ⟨j + 1, cs.set (keep (l.take j) p).length (.int .i64 x), by omega, by go_num, by rw [SL.out]; go_num, by rw [SL.out]; omega, B2.out.set_ _ _, by rw [List.length_set]; exact CLr.out, ?_, ?_, F2.out.trans (Frm.one _ ⟨g, _, none⟩ _) (fun _ _ h => h)⟩
              · rw [SL.out, S.out, List.map_append, ← TKr.out]
                have hk : (keep (l.take j) p).length < cs.length := by have := CLr.out; omega
                rw [List.take_add_one, List.getElem?_set_self hk, List.take_set_of_le (Nat.le_refl _)]
                rfl
              · intro t ht
                rw [List.getElem?_set_ne (by omega)]
                exact RE.out t (by omega)
            case measure => simp [intOf]; omega
        · have ej : j = n := by omega
          have hl' := HL.out
          have hall : l.take j = l := List.take_of_length_le (by omega)
          have AL := Troupe.hid hall
          have BKr := Troupe.hid hbk
          have CLr := Troupe.hid hcl
          have TKr := Troupe.hid htk
          have F := Troupe.hid hf
          clear hbk hcl htk hrest hf hall ej hl'
          go_wp2_with fail
          go_meet
          case rel =>
            have h1 := TKr.out
            rw [AL.out] at h1 hij
            exact ⟨by rw [AL.out], ⟨cs, BKr.out, CLr.out, h1⟩, by omega, F.out⟩
    case rest =>
      obtain ⟨w3, rfl⟩ : ∃ w3 : World, w3 = wc := ⟨_, rfl⟩
      obtain ⟨rfl, ⟨cs, hbk, hcl3, htk3⟩, hkn, hf⟩ := hcut
      obtain ⟨k, hk⟩ : ∃ k, k = (keep l p).length := ⟨_, rfl⟩
      rw [← hk] at htk3 hkn ⊢
      have hclr := fun ty => Lib.run_clear_slice (P := Try.prog) w3 32 3 ty (.int .i64 0) Try.underlying32 zeroE3 rfl rfl g k (n - k) (c - k) (by omega)
        (fun j hj => by rw [hbk.cell, List.getElem?_eq_getElem (by omega)]; rfl) (fun j hj => hbk.frozen _)
      obtain ⟨cs', h1, h2, h3⟩ := Blk.setCells (List.replicate (n - k) (Value.int .i64 0)) k hbk
      have BK' := Troupe.hid h1
      have CL' : Hid (cs'.length = c * 1) := by unfold Hid; omega
      have TK' : Hid (cs'.take (k * 1) = (keep l p).map (Value.int .i64)) := by unfold Hid; rw [Nat.mul_one, h3, htk3]
      have F' := Troupe.hid (hf.trans (Frm.setCells (List.replicate (n - k) (Value.int .i64 0)) w3 k) (fun _ _ h => h))
      have KK := Troupe.hid hk
      have hck : ¬ c = k := by omega
      have hc0 : ¬ c = 0 := by omega
      clear hbk hcl3 htk3 hf h1 h2 h3 hk
      go_wp2_with fail
      go_ret
      refine ⟨?_, ?_, F'.out.mono (fun k _ hk => by simp [Value.ownBlock, hk])⟩
      · rw [← KK.out]; rfl
      · rw [← KK.out, ← TK'.out]
        exact blk_own BK'.out CL'.out hbg (by omega) hcm
end Go.Proofs.Ytodkennpgfmenaa
