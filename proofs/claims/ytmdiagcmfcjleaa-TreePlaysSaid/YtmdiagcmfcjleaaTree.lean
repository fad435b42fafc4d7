/- The tree: how it lies in memory; New, Has, Len, Kids and Parent by contracts. -/
import Derived.Test.YtmdiagcmfcjleaaClone
namespace Go.Proofs.Ytmdiagcmfcjleaa
open Go.RowKit Go.Maps Go.Troupe

def look (M : List Mb) (B : Int → Nat) (k : Int) : Option Value := if hasV M k = true then some (.pointer (some ⟨B k, 0, none⟩)) else none
/-- A tree at p: its map mp, where the members lie (B), their rows of children (V). -/
structure TrB (w : World) (p : Nat) (r : Int) (mp : Nat) (B : Int → Nat) (V : Int → Value) (M : List Mb) : Prop where
  root : r = 0 ↔ M = []
  top : Blk w p 52 [.int .i64 r, .map (some mp)]
  map : IMap w mp .i64 M.length (look M B)
  mem : ∀ x ∈ M, Blk w (B x.1) 55 [.int .i64 x.2, V x.1] ∧ w.ownsRow 0 3 1 (V x.1) (kidsV M x.1).length (wordsI (kidsV M x.1))
  dis : ∀ x ∈ M, ∀ y ∈ M, x.1 ≠ y.1 → B x.1 ≠ B y.1 ∧ ∀ b, (V x.1).ownBlock = some b → (V y.1).ownBlock ≠ some b
  vd : Vd [] M
/-- The blocks that are the tree's own. -/
def Own (p mp : Nat) (B : Int → Nat) (V : Int → Value) (M : List Mb) (k : Nat) : Prop := k = p ∨ k = mp ∨ ∃ x ∈ M, k = B x.1 ∨ (V x.1).ownBlock = some k
section
variable {w w' : World} {p mp : Nat} {r : Int} {B : Int → Nat} {V : Int → Value} {M : List Mb} {S T : Nat → Prop}
theorem TrB.lt (h : TrB w p r mp B V M) {k : Nat} (hk : Own p mp B V M k) : k < w.heap.size := by
  rcases hk with rfl | rfl | ⟨x, hx, rfl | hk⟩
  · exact h.top.lt
  · exact h.map.lt
  · exact (h.mem x hx).1.lt
  · exact ((h.mem x hx).2.lt k hk).2
theorem TrB.frm (h : TrB w p r mp B V M) (hf : Frm T w w') (hT : ∀ k, Own p mp B V M k → ¬ T k) : TrB w' p r mp B V M :=
  ⟨h.root, h.top.frm hf (hT _ (.inl rfl)), h.map.frm hf (hT _ (.inr (.inl rfl))), fun x hx => ⟨(h.mem x hx).1.frm hf (hT _ (.inr (.inr ⟨x, hx, .inl rfl⟩))), own_frm (h.mem x hx).2 hf (fun b hb => hT _ (.inr (.inr ⟨x, hx, .inr hb⟩)))⟩, h.dis, h.vd⟩
theorem TrB.below (h : TrB w p r mp B V M) (hb : Below w.heap.size w w') : TrB w' p r mp B V M :=
  h.frm (Frm.of_below hb) (fun k hk hge => by have := h.lt hk; omega)
theorem TrB.heap (h : TrB w p r mp B V M) (hf : Frm (fun _ => False) w w') : TrB w' p r mp B V M := h.frm hf (fun _ _ h => h)
/-- The same, S: a set that holds its blocks. -/
def Tr (w : World) (p : Nat) (S : Nat → Prop) (M : List Mb) : Prop := ∃ r mp B V, TrB w p r mp B V M ∧ ∀ k, Own p mp B V M k → S k
theorem Tr.vd (h : Tr w p S M) : Vd [] M := by obtain ⟨r, mp, B, V, h, _⟩ := h; exact h.vd
theorem Tr.frm (h : Tr w p S M) (hf : Frm T w w') (hT : ∀ k, k < w.heap.size → T k → ¬ S k) : Tr w' p S M := by
  obtain ⟨r, mp, B, V, h, hS⟩ := h
  exact ⟨r, mp, B, V, h.frm hf (fun k hk hTk => hT k (h.lt hk) hTk (hS k hk)), hS⟩
theorem Tr.below (h : Tr w p S M) (hb : Below w.heap.size w w') : Tr w' p S M := by
  obtain ⟨r, mp, B, V, h, hS⟩ := h
  exact ⟨r, mp, B, V, h.below hb, hS⟩
theorem Tr.trim (h : Tr w p S M) : Tr w p (fun k => S k ∧ k < w.heap.size) M := by
  obtain ⟨r, mp, B, V, h, hS⟩ := h
  exact ⟨r, mp, B, V, h, fun k hk => ⟨hS k hk, h.lt hk⟩⟩
end
theorem zero56 (w : World) : (zeroValue 56).run Try.prog w = .ok (.pointer none) w := by
  have h : (Try.prog.info? 56).map (fun i => (i.zero, i.size, i.bytes)) = some (some (.pointer none), 1, 8) := by kernel_rfl
  obtain ⟨i, hi, hz, _, _⟩ := info_parts h
  simp [zeroValue, typeInfo, hi, hz]
theorem look_has {M : List Mb} {B : Int → Nat} {k : Int} (h : hasV M k = true) : (look M B k).getD (.pointer none) = .pointer (some ⟨B k, 0, none⟩) := by simp [look, h]
theorem look_not {M : List Mb} {B : Int → Nat} {k : Int} (h : hasV M k = false) : (look M B k).getD (.pointer none) = .pointer none := by simp [look, h]

def IsNew (w : World) (e : Ending) (w' : World) : Prop :=
  ∃ p, e = .returned (.pointer (some ⟨p, 0, none⟩)) ∧ Tr w' p (fun k => w.heap.size ≤ k ∧ k < w'.heap.size) [] ∧ Below w.heap.size w w'
theorem new_any (w : World) : Calls Try.prog 13 #[] w (IsNew w) := by
  have hm := IMap.made w .i64
  have hs : (w.alloc (.map #[] 0)).heap.size = w.heap.size + 1 := by simp
  have hs2 : ((w.alloc (.map #[] 0)).alloc (.cells #[.int .i64 0, .map (some w.heap.size)] 52)).heap.size = w.heap.size + 2 := by simp
  have hmm := @run_makeMap Try.prog
  go_enter Try.func13, Try.ntmps13
  go_wp2
  go_ret
  refine ⟨w.heap.size + 1, by simp, ⟨0, w.heap.size, fun _ => 0, fun _ => .bool false, ⟨by simp, ?_, ?_, fun x hx => by simp at hx, fun x hx => by simp at hx, trivial⟩, fun k hk => ?_⟩, ((Below.refl _ _).alloc (Nat.le_refl _) _).alloc (by simp) _⟩
  · have := Blk.new (w.alloc (.map #[] 0)) 52 [.int .i64 0, .map (some w.heap.size)]
    rw [hs] at this
    exact this
  · have := hm.alloc (.cells #[.int .i64 0, .map (some w.heap.size)] 52)
    have e : look [] (fun _ => 0) = fun _ => none := by funext k; simp [look, hasV]
    rw [e]; exact this
  · rw [hs2]
    rcases hk with rfl | rfl | ⟨x, hx, _⟩
    · omega
    · omega
    · simp at hx
section
variable {p : Nat} {S : Nat → Prop} {M : List Mb}
set_option maxRecDepth 100000 in
theorem has_any (id : Int) (w : World) (h : Tr w p S M) : Calls Try.prog 12 #[.pointer (some ⟨p, 0, none⟩), .int .i64 id] w fun e w' => e = .returned (.bool (hasV M id)) ∧ w' = w := by
  obtain ⟨r, mp, B, V, h, _⟩ := h
  have c1 : w.cell? ⟨p, 1, none⟩ = some (.map (some mp)) := h.top.cell 1
  have HM := Troupe.hid h.map
  clear h
  cases hv : hasV M id with
  | true =>
    have LK := Troupe.hid (look_has (B := B) hv)
    clear hv
    go_enter Try.func12, Try.ntmps12
    go_wp2_with (at_lookup; refine wpList_look rfl _ _ 50 rfl 3 56 Try.underlying50 Try.underlying3 _ (zero56 _) rfl HM.out _ rfl ?_; rw [LK.out])
    go_ret
    exact ⟨rfl, rfl⟩
  | false =>
    have LK := Troupe.hid (look_not (B := B) hv)
    clear hv
    go_enter Try.func12, Try.ntmps12
    go_wp2_with (at_lookup; refine wpList_look rfl _ _ 50 rfl 3 56 Try.underlying50 Try.underlying3 _ (zero56 _) rfl HM.out _ rfl ?_; rw [LK.out])
    go_ret
    exact ⟨rfl, rfl⟩
set_option maxRecDepth 100000 in
theorem len_any (w : World) (h : Tr w p S M) : Calls Try.prog 9 #[.pointer (some ⟨p, 0, none⟩)] w fun e w' => e = .returned (.int .i64 M.length) ∧ w' = w := by
  obtain ⟨r, mp, B, V, h, _⟩ := h
  have c1 : w.cell? ⟨p, 1, none⟩ = some (.map (some mp)) := h.top.cell 1
  have HL := fun ty => h.map.run_len (P := Try.prog) Try.underlying50 ty
  clear h
  go_enter Try.func9, Try.ntmps9
  go_wp2_with fail
  go_ret
  exact ⟨rfl, rfl⟩
end
end Go.Proofs.Ytmdiagcmfcjleaa
