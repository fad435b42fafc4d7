/- The area: how it lies in memory; New, Regions and Free by contracts. -/
import Derived.Test.YtcgdghnmcahfeaaSearch
import Derived.Test.YtcgdghnmcahfeaaIndex
import Derived.Test.YtcgdghnmcahfeaaDelete
namespace Go.Proofs.Ytcgdghnmcahfeaa
open Go.RowKit Go.Maps Go.Troupe

theorem own_at {w : World} {base n size : Nat} {e : TypeId} {v : Value} {xs : List Value} {b : Nat} (h : w.ownsRow base e size v n xs) (hb : v.ownBlock = some b) : ∃ cs, Blk w b e cs := by
  obtain ⟨A, cap, rfl, -⟩ := own_form h
  rcases own_blk h with ⟨rfl, -⟩ | ⟨g, cs, rfl, hbk, -⟩
  · simp [Value.ownBlock] at hb
  · simp [Value.ownBlock] at hb
    subst hb
    exact ⟨cs, hbk⟩
/-- An area at p: how many cells it has, the regions that are out; S: the blocks that are its own. -/
structure Area (w : World) (p : Nat) (S : Nat → Prop) (N : Nat) (l : List Rg) : Prop where
  ex : ∃ v, Blk w p 51 [.int .i64 N, v] ∧ w.ownsRow 0 47 2 v l.length (flatG l) ∧ (∀ b, v.ownBlock = some b → S b ∧ b < w.heap.size)
  sS : S p
  ok : Ok 0 N l
  hN : N ≤ 65536
section
variable {w w' : World} {p N : Nat} {S T : Nat → Prop} {l : List Rg}
theorem Area.lt (h : Area w p S N l) : p < w.heap.size := by
  obtain ⟨v, h1, _⟩ := h.ex; exact h1.lt
theorem Area.frm (h : Area w p S N l) (hf : Frm T w w') (hT : ∀ k, k < w.heap.size → T k → ¬ S k) : Area w' p S N l := by
  obtain ⟨v, h1, h2, h3⟩ := h.ex
  exact ⟨⟨v, h1.frm hf (fun hk => hT _ h1.lt hk h.sS), own_frm h2 hf (fun b hb hk => hT _ (h3 b hb).2 hk (h3 b hb).1), fun b hb => ⟨(h3 b hb).1, Nat.lt_of_lt_of_le (h3 b hb).2 hf.size⟩⟩, h.sS, h.ok, h.hN⟩
theorem Area.below (h : Area w p S N l) (hf : Below w.heap.size w w') : Area w' p S N l := h.frm (Frm.of_below hf) (fun k hk hn => absurd hk (by omega))
theorem Area.len (h : Area w p S N l) : l.length ≤ 65536 := by have := h.ok.length; have := h.hN; omega
end
/-- What a call that changes the area leaves. -/
def Left (p : Nat) (S : Nat → Prop) (N : Nat) (l : List Rg) (w w' : World) : Prop :=
  ∃ S', Area w' p S' N l ∧ (∀ k, S' k → S k ∨ (w.heap.size ≤ k ∧ k < w'.heap.size)) ∧ Frm S w w'

def areaN (n : Int) : Nat := if n < 0 then 0 else if 65536 < n then 65536 else n.toNat
def IsNew (n : Int) (w : World) (e : Ending) (w' : World) : Prop :=
  ∃ p, e = .returned (.pointer (some ⟨p, 0, none⟩)) ∧ Area w' p (fun k => w.heap.size ≤ k ∧ k < w'.heap.size) (areaN n) [] ∧ Below w.heap.size w w'
theorem area_of (w : World) {x : Int} {N : Nat} (hx : x = N) (hN : N ≤ 65536) : Area (w.alloc (.cells #[.int .i64 x, .slice none 0 0] 51)) w.heap.size (fun k => w.heap.size ≤ k ∧ k < (w.alloc (.cells #[.int .i64 x, .slice none 0 0] 51)).heap.size) N [] := by
  subst hx
  refine ⟨⟨_, Blk.new w 51 [.int .i64 N, .slice none 0 0], World.ownsRow_nil _ _ _ _, ?_⟩, by simp, Nat.zero_le _, hN⟩
  intro b hb; simp [Value.ownBlock] at hb
theorem new_any (n : Int) (w : World) : Calls Try.prog 9 #[.int .i64 n] w (IsNew n w) := by
  have hN : areaN n ≤ 65536 := by unfold areaN; split <;> (try split) <;> omega
  go_enter Try.func9, Try.ntmps9
  go_wp2
  all_goals go_ret
  all_goals refine ⟨_, rfl, area_of w ?_ hN, (Below.refl _ _).alloc (Nat.le_refl _) _⟩
  all_goals unfold areaN
  all_goals split <;> (try split) <;> omega

def Cloned (w : World) (n : Nat) (l : List Rg) (e : Ending) (w' : World) : Prop :=
  ∃ v, e = .returned v ∧ w'.ownsRow w.heap.size 47 2 v n (flatG l) ∧ Below w.heap.size w w'
set_option maxRecDepth 100000 in
theorem clone_any (Ad : Option Addr) (n c B : Nat) (l : List Rg) (w : World) (hl : l.length = n) (hn : n ≤ 65536) (hc : Cells w B Ad (flatG l)) (hA : Ad = none → n = 0 ∧ c = 0) :
    Calls Try.prog 32 #[.slice Ad n c] w (Cloned w n l) := by
  have hnil := fun W => Lib.run_eql_slice_nil (P := Try.prog) W 44 47 Ad n c 0 0 Try.underlying44
  cases Ad with
  | none =>
    obtain ⟨rfl, rfl⟩ := hA rfl
    obtain rfl : l = [] := List.eq_nil_of_length_eq_zero hl
    simp only [Option.isNone_none] at hnil
    go_enter Try.func32, Try.ntmps32
    go_wp2_with fail
    go_ret
    exact ⟨.slice none 0 0, rfl, World.ownsRow_nil _ _ _ _, Below.refl _ _⟩
  | some ad =>
    simp only [Option.isNone_some] at hnil
    have hblk := Blk.new w 47 []
    have hown : (w.alloc (.cells #[] 47)).ownsRow w.heap.size 47 2 (.slice (some ⟨w.heap.size, 0, none⟩) 0 0) 0 [] := by
      have := blk_own (base := w.heap.size) (n := 0) (cap := 0) (size := 2) hblk (by simp) (Nat.le_refl _) (Nat.le_refl _) (by simp [maxLen])
      simpa using this
    have hc1 : Cells (w.alloc (.cells #[] 47)) B (some ad) (flatG l) := hc.keep fun p _ u hu => by
      rw [← hu]
      exact World.cell?_of_block (Below.heap_alloc _ _ _ (by
        rcases Nat.lt_or_ge p.block w.heap.size with h | h
        · exact h
        · unfold World.cell? at hu; rw [Array.getElem?_eq_none h] at hu; cases hu))
    have OWN := Troupe.hid hown
    have C1 := Troupe.hid hc1
    have LEN : Hid ((flatG l).length = n * 2) := by unfold Hid; rw [flatG_len, hl]
    clear hblk hown hc1 hc
    go_enter Try.func32, Try.ntmps32
    go_wp2_with (at_builtin; refine wpList_app rfl (.tmp 5) (.tmp 6) 44 rfl w.heap.size 47 info47 Try.underlying44 rfl (by decide) (.slice (some ⟨w.heap.size, 0, none⟩) 0 0) 0 [] rfl OWN.out B (some ad) n c (flatG l) rfl LEN.out C1.out (fun h => by cases h) (flatG_one _) (by omega) (by unfold maxLen; omega) (by simp) ?_; intro v' w' h'; have H := Troupe.hid h'; clear h')
    go_ret
    refine ⟨v', rfl, ?_, ?_⟩
    · have := H.out.own
      simpa using this
    · refine ((((Below.refl _ _).alloc (Nat.le_refl _) _).trans (H.out.frm.below (by simp) (fun k hk => ?_))))
      simp [Value.ownBlock] at hk
      omega
set_option maxRecDepth 100000 in
theorem regions_any {p N : Nat} {S : Nat → Prop} {l : List Rg} (w : World) (h : Area w p S N l) :
    Calls Try.prog 21 #[.pointer (some ⟨p, 0, none⟩)] w (Cloned w l.length l) := by
  have hlen := h.len
  obtain ⟨v, h1, h2, h3⟩ := h.ex
  obtain ⟨A, cap, rfl, _, _, hc, hnil, _⟩ := own_form h2
  have c1 : w.cell? ⟨p, 1, none⟩ = some (.slice A l.length cap) := h1.cell 1
  have K := Troupe.hid (clone_any A _ cap w.heap.size l w rfl hlen hc hnil)
  clear h h1 h2 h3 hc hnil
  go_enter Try.func21, Try.ntmps21
  go_wp2_with fail
  refine K.out.mono ?_
  rintro e w' ⟨v, rfl, ho, hb⟩
  have HO := Troupe.hid ho
  have HB := Troupe.hid hb
  clear ho hb c1
  go_wp2_with fail
  go_ret
  exact ⟨v, rfl, HO.out, HB.out⟩

theorem sum_le : ∀ {l : List Rg} {e n : Nat}, Ok e n l → 0 ≤ (l.map (fun r => (r.2 : Int))).sum ∧ (l.map (fun r => (r.2 : Int))).sum + e ≤ n
  | [], _, _, h => by have : _ ≤ _ := h; simp; omega
  | r :: l, e, n, ⟨h1, h2, h3, h4⟩ => by have := sum_le h4; simp only [List.map_cons, List.sum_cons]; omega
theorem sum_take (l : List Rg) (i : Nat) (r : Rg) (h : l[i]? = some r) : ((l.take (i + 1)).map (fun r => (r.2 : Int))).sum = ((l.take i).map (fun r => (r.2 : Int))).sum + r.2 := by
  rw [List.take_add_one, h]
  simp
theorem Ok.take : ∀ {l : List Rg} {e n : Nat} (_ : Ok e n l) (i : Nat), Ok e n (l.take i)
  | [], e, n, h, i => by rw [List.take_nil]; exact h
  | x :: l, e, n, h, 0 => h.le
  | x :: l, e, n, ⟨h1, h2, h3, h4⟩, i + 1 => ⟨h1, h2, h3, h4.take i⟩
set_option maxRecDepth 100000 in
set_option maxHeartbeats 1000000 in
theorem free_any {p N : Nat} {S : Nat → Prop} {l : List Rg} (w : World) (h : Area w p S N l) :
    Calls Try.prog 15 #[.pointer (some ⟨p, 0, none⟩)] w fun e w' => e = .returned (.int .i64 (freeV N l)) ∧ Below w.heap.size w w' := by
  have hlen := h.len
  have hN := h.hN
  obtain ⟨v, h1, h2, h3⟩ := h.ex
  obtain ⟨A, cap, rfl, _, _, hc, hnil, _⟩ := own_form h2
  have c0 : w.cell? ⟨p, 0, none⟩ = some (.int .i64 N) := h1.cell 0
  have c1 : w.cell? ⟨p, 1, none⟩ = some (.slice A l.length cap) := h1.cell 1
  have C0 := Troupe.hid hc
  have OK := Troupe.hid h.ok
  clear h h1 h2 h3 hc hnil
  have hsum : freeV N l = N - ((l.take l.length).map (fun r => (r.2 : Int))).sum := by rw [List.take_length]; rfl
  rw [hsum]
  clear hsum
  go_enter Try.func15, Try.ntmps15
  go_wp2_with fail
  go_loopw [3, 15] (fun v3 v15 wr => ∃ i : Nat, i ≤ l.length ∧ v15 = .int .i64 i ∧ v3 = .int .i64 (N - ((l.take i).map (fun r => (r.2 : Int))).sum) ∧ Below w.heap.size w wr) (fun _ v15 _ => l.length - (intOf v15).toNat)
  case atStart => exact ⟨0, Nat.zero_le _, rfl, by simp, Below.refl _ _⟩
  case round =>
    obtain ⟨i, hi, rfl, rfl, hb⟩ := hrel
    have HB := Troupe.hid hb
    have C1 := Troupe.hid ((C0.out).below hb)
    clear hb
    by_cases hlt : i < l.length
    · obtain ⟨x, hx⟩ : ∃ x, l[i]? = some x := ⟨_, List.getElem?_eq_getElem hlt⟩
      obtain ⟨b, off, rfl, _, d0, d1⟩ := C1.out.rg hx
      have hs := sum_take l i x hx
      have t1 := sum_le (OK.out.take i)
      have t2 := sum_le (OK.out.take (i + 1))
      obtain ⟨s1, hs1⟩ : ∃ s1, s1 = ((l.take i).map (fun r => (r.2 : Int))).sum := ⟨_, rfl⟩
      have HS : Hid (((l.take (i + 1)).map (fun r => (r.2 : Int))).sum = s1 + x.2) := by rw [hs1]; exact hs
      rw [hs, ← hs1] at t2
      rw [← hs1] at t1 ⊢
      have e1 : IntKind.i64.wrap ((N : Int) - s1 - x.2) = (N : Int) - s1 - x.2 := by rw [IntKind.wrap_i64]; omega
      clear hs hx hs1
      go_wp2_with fail
      go_roundw
      case rel => exact ⟨i + 1, by omega, by go_num, by rw [HS.out]; congr 1; omega, HB.out.alloc HB.out.size _⟩
      case measure => simp [intOf]; omega
    · obtain rfl : i = l.length := by omega
      go_wp2_with fail
      go_ret
      exact ⟨rfl, HB.out⟩
end Go.Proofs.Ytcgdghnmcahfeaa
