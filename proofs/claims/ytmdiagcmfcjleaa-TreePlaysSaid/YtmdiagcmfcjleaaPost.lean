/- The tree's order from below, in plain Lean: it is high enough, tells nobody twice, and each behind its children. -/
import Derived.Test.YtmdiagcmfcjleaaAlive
namespace Go.Proofs.Ytmdiagcmfcjleaa
open Go.RowKit Go.Maps Go.Troupe

theorem kid_after : ∀ (pre : List Mb) {seen : List Int} {x : Mb} {suf : List Mb}, Vd seen (pre ++ x :: suf) → ∀ y ∈ pre ++ x :: suf, y.2 = x.1 → y ∈ suf
  | [], seen, x, suf, ⟨h1, h2, h3, h4⟩, y, hy, he => by
    rcases List.mem_cons.1 hy with hy' | hy'
    · exfalso
      subst hy'
      rcases h3 with ⟨_, h⟩ | h
      · omega
      · rw [he] at h; exact h2 h
    · exact hy'
  | z :: pre, seen, x, suf, ⟨h1, h2, h3, h4⟩, y, hy, he => by
    have hx : x ∈ pre ++ x :: suf := by simp
    rcases List.mem_cons.1 hy with hy' | hy'
    · exfalso
      subst hy'
      rcases h3 with ⟨_, h⟩ | h
      · have := h4.pos x hx; omega
      · rw [he] at h; exact h4.fresh x hx (List.mem_cons_of_mem _ h)
    · exact kid_after pre h4 y hy' he
theorem hgt_suf {M : List Mb} (hM : Vd [] M) : ∀ (n : Nat) (pre : List Mb) (x : Mb) (suf : List Mb), suf.length ≤ n → M = pre ++ x :: suf → Hgt M (n + 1) x.1
  | n, pre, x, suf, hn, he => by
    intro k hk
    have hm := mem_kidsV.1 hk
    have hs : (k, x.1) ∈ suf := kid_after pre (he ▸ hM) _ (he ▸ hm) rfl
    obtain ⟨a, b, hab⟩ := List.append_of_mem hs
    have hl : suf.length = a.length + b.length + 1 := by rw [hab]; simp; omega
    cases n with
    | zero => omega
    | succ n => exact hgt_suf hM n (pre ++ x :: a) (k, x.1) b (by omega) (by rw [he, hab]; simp)
theorem hgt_ex {M : List Mb} (hM : Vd [] M) {id : Int} (h : hasV M id = true) : Hgt M (M.length + 1) id := by
  obtain ⟨x, hx, rfl⟩ := hasV_iff.1 h
  obtain ⟨pre, suf, he⟩ := List.append_of_mem hx
  exact hgt_suf hM M.length pre x suf (by rw [he]; simp; omega) he

/-! ### indices -/
theorem Vd.idx : ∀ {M : List Mb} {seen : List Int}, Vd seen M → ∀ {i j : Nat} {x y : Mb}, M[i]? = some x → M[j]? = some y → x.1 = y.1 → i = j
  | [], _, _, i, j, x, y, h, _, _ => by simp at h
  | z :: l, seen, ⟨_, _, _, h4⟩, 0, 0, x, y, _, _, _ => rfl
  | z :: l, seen, ⟨_, _, _, h4⟩, 0, j + 1, x, y, hx, hy, he => by
    simp at hx hy; subst hx
    exact absurd (by rw [← he]; exact List.mem_cons_self) (h4.fresh y (List.mem_of_getElem? hy))
  | z :: l, seen, ⟨_, _, _, h4⟩, i + 1, 0, x, y, hx, hy, he => by
    simp at hx hy; subst hy
    exact absurd (by rw [he]; exact List.mem_cons_self) (h4.fresh x (List.mem_of_getElem? hx))
  | z :: l, seen, ⟨_, _, _, h4⟩, i + 1, j + 1, x, y, hx, hy, he => by
    have h1 : l[i]? = some x := by simpa using hx
    have h2 : l[j]? = some y := by simpa using hy
    exact congrArg (· + 1) (h4.idx h1 h2 he)
theorem Vd.paridx : ∀ {M : List Mb} {seen : List Int}, Vd seen M → ∀ {i : Nat} {x : Mb}, M[i]? = some x → (seen = [] ∧ x.2 = 0) ∨ x.2 ∈ seen ∨ ∃ j y, j < i ∧ M[j]? = some y ∧ y.1 = x.2
  | [], _, _, i, x, h => by simp at h
  | z :: l, seen, ⟨_, _, h3, h4⟩, 0, x, hx => by
    simp at hx; subst hx
    rcases h3 with h | h
    · exact .inl h
    · exact .inr (.inl h)
  | z :: l, seen, ⟨_, _, h3, h4⟩, i + 1, x, hx => by
    rcases h4.paridx (by simpa using hx) with ⟨h, _⟩ | h | ⟨j, y, hj, hy, e⟩
    · cases h
    · rcases List.mem_cons.1 h with h | h
      · exact .inr (.inr ⟨0, z, by omega, rfl, h.symm⟩)
      · exact .inr (.inl h)
    · exact .inr (.inr ⟨j + 1, y, by omega, by simpa using hy, e⟩)
/-- a stands on b's path. -/
inductive Up (M : List Mb) (a : Int) : Int → Prop
  | refl : Up M a a
  | step {b c : Int} : (b, c) ∈ M → Up M a c → Up M a b
section
variable {M : List Mb}
theorem Up.trans {a b c : Int} (h1 : Up M a b) (h2 : Up M b c) : Up M a c := by
  induction h2 with
  | refl => exact h1
  | step hm _ ih => exact .step hm ih
theorem Up.root {a : Int} (hM : Vd [] M) (h : Up M a 0) : a = 0 := by
  cases h with
  | refl => rfl
  | step hm _ => have := hM.pos _ hm; simp only at this; omega
theorem Up.le (hM : Vd [] M) {a b : Int} (h : Up M a b) : ∀ {i j : Nat} {x y : Mb}, M[i]? = some x → x.1 = a → M[j]? = some y → y.1 = b → i ≤ j := by
  induction h with
  | refl =>
    intro i j x y hx hxa hy hyb
    exact Nat.le_of_eq (hM.idx hx hy (by rw [hxa, hyb]))
  | @step b c hm hu ih =>
    intro i j x y hx hxa hy hyb
    have hyM := List.mem_of_getElem? hy
    have he : y = (b, c) := hM.inj y hyM _ hm hyb
    subst he
    rcases hM.paridx hy with ⟨_, h0⟩ | h0 | ⟨j', z, hj', hz, e⟩
    · simp only at h0
      subst h0
      have := hu.root hM
      have h1 := hM.pos x (List.mem_of_getElem? hx)
      omega
    · simp at h0
    · have := ih hx hxa hz e
      omega
theorem Up.cmp (hM : Vd [] M) {a b y : Int} (h1 : Up M a y) (h2 : Up M b y) : Up M a b ∨ Up M b a := by
  induction h1 with
  | refl => exact .inr h2
  | @step y c hm hu ih =>
    cases h2 with
    | refl => exact .inl (.step hm hu)
    | @step _ c' hm' hu' =>
      have := hM.inj _ hm _ hm' rfl
      have hc : c = c' := by cases this; rfl
      subst hc
      exact ih hu'
theorem post_up : ∀ {f : Nat} {id y : Int}, y ∈ post M f id → Up M id y
  | 0, id, y, h => by simp [post] at h
  | f + 1, id, y, h => by
    rcases List.mem_append.1 h with h | h
    · obtain ⟨k, hk, hy⟩ := List.mem_flatMap.1 h
      exact (Up.step (mem_kidsV.1 hk) .refl).trans (post_up hy)
    · simp at h; subst h; exact .refl
theorem post_has : ∀ {f : Nat} {id y : Int}, hasV M id = true → y ∈ post M f id → hasV M y = true
  | 0, id, y, _, h => by simp [post] at h
  | f + 1, id, y, hv, h => by
    rcases List.mem_append.1 h with h | h
    · obtain ⟨k, hk, hy⟩ := List.mem_flatMap.1 h
      exact post_has (hasV_mem (mem_kidsV.1 hk)) hy
    · simp at h; subst h; exact hv
theorem kid_not_up (hM : Vd [] M) {k id : Int} (hk : (k, id) ∈ M) (hv : hasV M id = true) : ¬ Up M k id := by
  intro hu
  obtain ⟨x, hx, hxe⟩ := hasV_iff.1 hv
  obtain ⟨i, hi⟩ := List.mem_iff_getElem?.1 hk
  obtain ⟨j, hj⟩ := List.mem_iff_getElem?.1 hx
  have h1 := hu.le hM hi rfl hj hxe
  rcases hM.paridx hi with ⟨_, h0⟩ | h0 | ⟨j', z, hj', hz, e⟩
  · simp only at h0
    have := hM.pos x hx; omega
  · simp at h0
  · have := hM.idx hz hj (by rw [e, hxe])
    omega
theorem nodup_flatMap {g : Int → List Int} : ∀ {l : List Int}, l.Nodup → (∀ k ∈ l, (g k).Nodup) → (∀ k ∈ l, ∀ k' ∈ l, k ≠ k' → ∀ y ∈ g k, y ∉ g k') → (l.flatMap g).Nodup
  | [], _, _, _ => by simp
  | a :: l, hn, h1, h2 => by
    rw [List.flatMap_cons, List.nodup_append]
    rw [List.nodup_cons] at hn
    refine ⟨h1 a List.mem_cons_self, nodup_flatMap hn.2 (fun k hk => h1 k (List.mem_cons_of_mem _ hk)) (fun k hk k' hk' => h2 k (List.mem_cons_of_mem _ hk) k' (List.mem_cons_of_mem _ hk')), fun y hy z hz e => ?_⟩
    subst e
    obtain ⟨k, hk, hyk⟩ := List.mem_flatMap.1 hz
    exact h2 a List.mem_cons_self k (List.mem_cons_of_mem _ hk) (fun e => hn.1 (e ▸ hk)) y hy hyk
theorem post_nodup (hM : Vd [] M) : ∀ {f : Nat} {id : Int}, hasV M id = true → (post M f id).Nodup
  | 0, id, _ => by simp [post]
  | f + 1, id, hv => by
    have hkv : ∀ k ∈ kidsV M id, hasV M k = true := fun k hk => hasV_mem (mem_kidsV.1 hk)
    show ((kidsV M id).flatMap (post M f) ++ [id]).Nodup
    rw [List.nodup_append]
    refine ⟨nodup_flatMap (hM.nodup_kids id) (fun k hk => post_nodup hM (hkv k hk)) (fun k hk k' hk' hne y hy hy' => ?_), by simp, fun y hy z hz e => ?_⟩
    · have key : ∀ {a b : Int}, a ∈ kidsV M id → b ∈ kidsV M id → a ≠ b → ¬ Up M a b := by
        intro a b ha hb hab hu
        cases hu with
        | refl => exact hab rfl
        | @step _ c hm hu =>
          have := hM.inj _ hm _ (mem_kidsV.1 hb) rfl
          have hc : c = id := by cases this; rfl
          subst hc
          exact kid_not_up hM (mem_kidsV.1 ha) hv hu
      rcases (post_up hy).cmp hM (post_up hy') with h | h
      · exact key hk hk' hne h
      · exact key hk' hk (fun e => hne e.symm) h
    · simp at hz; subst hz
      subst e
      obtain ⟨k, hk, hyk⟩ := List.mem_flatMap.1 hy
      exact kid_not_up hM (mem_kidsV.1 hk) hv (post_up hyk)
/-- Each behind its children. -/
def Good (M : List Mb) (L : List Int) : Prop := ∀ i y, L[i]? = some y → ∀ c ∈ kidsV M y, c ∈ L.take i
theorem Good.app {A B : List Int} (hA : Good M A) (hB : Good M B) : Good M (A ++ B) := by
  intro i y hy c hc
  by_cases hi : i < A.length
  · rw [List.getElem?_append_left hi] at hy
    have := hA i y hy c hc
    rw [List.take_append_of_le_length (by omega)]; exact this
  · rw [List.getElem?_append_right (by omega)] at hy
    have := hB _ y hy c hc
    rw [List.take_append]
    exact List.mem_append_right _ this
theorem Good.flat {g : Int → List Int} : ∀ {l : List Int}, (∀ k ∈ l, Good M (g k)) → Good M (l.flatMap g)
  | [], _ => fun i y hy => by simp at hy
  | a :: l, h => by
    rw [List.flatMap_cons]
    exact (h a List.mem_cons_self).app (Good.flat fun k hk => h k (List.mem_cons_of_mem _ hk))
theorem post_last : ∀ {f : Nat} {id : Int}, Hgt M f id → id ∈ post M f id
  | 0, _, h => h.elim
  | f + 1, id, _ => List.mem_append_right _ (by simp)
theorem post_good : ∀ {f : Nat} {id : Int}, Hgt M f id → Good M (post M f id)
  | 0, _, h => h.elim
  | f + 1, id, h => by
    show Good M ((kidsV M id).flatMap (post M f) ++ [id])
    intro i y hy c hc
    have hG : Good M ((kidsV M id).flatMap (post M f)) := Good.flat fun k hk => post_good (h k hk)
    by_cases hi : i < ((kidsV M id).flatMap (post M f)).length
    · rw [List.getElem?_append_left hi] at hy
      rw [List.take_append_of_le_length (by omega)]
      exact hG i y hy c hc
    · rw [List.getElem?_append_right (by omega)] at hy
      have hy' : y = id := by
        cases hj : i - ((kidsV M id).flatMap (post M f)).length with
        | zero => rw [hj] at hy; simpa using hy.symm
        | succ j => rw [hj] at hy; simp at hy
      subst hy'
      rw [List.take_append, List.take_of_length_le (by omega)]
      exact List.mem_append_left _ (List.mem_flatMap.2 ⟨c, hc, post_last (h c hc)⟩)
end
end Go.Proofs.Ytmdiagcmfcjleaa
