/- The book grown by a message or an actor. -/
import Derived.Test.YtkjjhndccelbcaaLife2
namespace Go.Proofs.Ytkjjhndccelbcaa
open Go.RowKit Go.Maps Go.Troupe

theorem KOwn.frmS {S : Nat → Prop} {w w' : World} {base : Nat} {k : Kf} (h : KOwn w base k) (hf : Frm S w w') (hS : ∀ (g : Nat) (t : TypeId) (cs : List Value), t = 103 ∨ t = 63 ∨ t = 60 ∨ t = 57 → Blk w g t cs → ¬ S g) : KOwn w' base k := by
  refine ⟨own_frm h.cases hf (fun b hb' => ?_), own_frm h.sts hf (fun b hb' => ?_), fun s hs => ⟨own_frm (h.all s hs).1 hf (fun b hb' => ?_), fun r hr => own_frm ((h.all s hs).2 r hr) hf (fun b hb' => ?_)⟩⟩
  · obtain ⟨cs', hbk⟩ := own_at h.cases hb'
    exact hS b _ cs' (by simp) hbk
  · obtain ⟨cs', hbk⟩ := own_at h.sts hb'
    exact hS b _ cs' (by simp) hbk
  · obtain ⟨cs', hbk⟩ := own_at (h.all s hs).1 hb'
    exact hS b _ cs' (by simp) hbk
  · obtain ⟨cs', hbk⟩ := own_at ((h.all s hs).2 r hr) hb'
    exact hS b _ cs' (by simp) hbk
section
variable {w w' : World} {base gb ca cl : Nat} {pv : Value} {Aa Al : Option Addr} {bk : Bk} {ag lg : List Nat}
theorem flatP_add (l : List Nat) (g : Nat) : flatP (l ++ [g]) = flatP l ++ [.pointer (some ⟨g, 0, none⟩)] := by simp [flatP, ptr]
theorem gptr_add {lg : List Nat} {x : Option Nat} (gn : Nat) (h : ∀ j, x = some j → j < lg.length) : gptr (lg ++ [gn]) x = gptr lg x := by
  cases x with
  | none => rfl
  | some j => unfold gptr; simp [List.getElem?_append_left (h j rfl)]
/-- What a frame over the row of messages and the book itself leaves of the others. -/
theorem BookAt.addL {gn : Nat} {l : Lt} {v' : Value} (h : BookAt w base gb pv Aa ca Al cl bk ag lg) (hn : Blk w gn 84 l.cells) (hb : base ≤ gn) (hni : gn ∉ lg)
    (ha : Appended w w' base 82 1 (.slice Al lg.length cl) v' (lg.length + 1) (flatP lg ++ [.pointer (some ⟨gn, 0, none⟩)])) :
    ∃ Al' cl', v' = .slice Al' (lg.length + 1) cl' ∧ BookAt (w'.setCell ⟨gb, 2, none⟩ v') base gb pv Aa ca Al' cl' { bk with lts := bk.lts ++ [l] } ag (lg ++ [gn]) := by
  obtain ⟨Al', cl', hv, -⟩ := own_form ha.own
  refine ⟨Al', cl', hv, ?_⟩
  have hrow : ∀ k, (Value.slice Al lg.length cl).ownBlock = some k → ∃ cs, Blk w k 82 cs := fun k hk => own_at h.ol hk
  have f1 := ha.frm
  have hf : Frm (fun k => (Value.slice Al lg.length cl).ownBlock = some k ∨ k = gb) w (w'.setCell ⟨gb, 2, none⟩ v') := f1.and_then (Frm.one w' ⟨gb, 2, none⟩ v')
  have hno : ∀ (g : Nat) (t : TypeId) (cs : List Value), t ≠ 82 → t ≠ 49 → Blk w g t cs → ¬ ((Value.slice Al lg.length cl).ownBlock = some g ∨ g = gb) := by
    intro g t cs h1 h2 hbk e
    rcases e with e | rfl
    · obtain ⟨cs', hb'⟩ := hrow g e
      exact hbk.ne hb' h1 rfl
    · exact hbk.ne h.blk h2 rfl
  have hgb : Blk w' gb 49 [pv, .slice Aa ag.length ca, .slice Al lg.length cl, .int .i64 bk.ticks] := h.blk.frm f1 (fun e => by
    obtain ⟨cs', hb'⟩ := hrow gb e
    exact h.blk.ne hb' (by decide) rfl)
  refine ⟨?_, h.hb, own_frm h.oa hf (fun b hb' => ?_), ?_, h.la, by simp [h.ll], h.nda, ?_, h.ga, ?_, ?_, ?_, ?_, h.kf⟩
  · have := hgb.set_ 2 v'
    rw [hv] at this ⊢
    simpa using this
  · obtain ⟨cs', hbk⟩ := own_at h.oa hb'
    exact hno b _ cs' (by decide) (by decide) hbk
  · have ho := own_frm ha.own (Frm.one w' ⟨gb, 2, none⟩ v') (fun b hb' e => by
      obtain ⟨cs', hbk⟩ := own_at ha.own hb'
      exact hbk.ne hgb (by decide) e)
    rw [flatP_add, List.length_append, List.length_singleton, ← hv]
    exact ho
  · rw [List.nodup_append]
    refine ⟨h.ndl, by simp, ?_⟩
    intro a h1 b h2 e
    simp at h2
    subst h2 e
    exact hni h1
  · intro g hg
    rcases List.mem_append.1 hg with hg | hg
    · exact h.gl g hg
    · simp at hg; subst hg; exact hb
  · intro i a g hx hg
    obtain ⟨k', A, n, c, hb', hs, ho⟩ := h.ac i a g hx hg
    refine ⟨k', A, n, c, ?_, hs, ho.frmS hf (fun g t cs ht => hno g t cs (by rcases ht with rfl | rfl | rfl | rfl <;> decide) (by rcases ht with rfl | rfl | rfl | rfl <;> decide))⟩
    rw [gptr_add gn (fun j hj => by rw [h.ll]; exact h.wk a (List.mem_of_getElem? hx) j hj)]
    exact hb'.frm hf (hno g _ _ (by decide) (by decide) hb')
  · intro i x g hx hg
    rcases Nat.lt_or_ge i lg.length with hi | hi
    · rw [List.getElem?_append_left hi] at hg
      rw [List.getElem?_append_left (by rw [← h.ll]; exact hi)] at hx
      have hb' := h.lt i x g hx hg
      exact hb'.frm hf (hno g _ _ (by decide) (by decide) hb')
    · rw [List.getElem?_append_right hi] at hg
      have hi2 : i - lg.length = 0 := by
        have := (List.getElem?_eq_some_iff.1 hg).1
        simp at this; omega
      rw [List.getElem?_append_right (by rw [← h.ll]; exact hi)] at hx
      rw [← h.ll] at hx
      rw [hi2] at hx hg
      simp at hx hg
      subst hx hg
      exact hn.frm hf (hno gn _ _ (by decide) (by decide) hn)
  · intro a ha' j hj
    have := h.wk a ha' j hj
    simp; omega
theorem BookAt.addA {gn : Nat} {a : Ac} {v' : Value} (h : BookAt w base gb pv Aa ca Al cl bk ag lg) (hn : ActorAt w base lg gn ag.length a) (hb : base ≤ gn) (hni : gn ∉ ag)
    (hwk : a.work = none) (hkf : a.k.sts ≠ [] ∧ ∃ w0 B, KfIn w0 B a.k)
    (ha : Appended w w' base 76 1 (.slice Aa ag.length ca) v' (ag.length + 1) (flatP ag ++ [.pointer (some ⟨gn, 0, none⟩)])) :
    ∃ Aa' ca', v' = .slice Aa' (ag.length + 1) ca' ∧ BookAt (w'.setCell ⟨gb, 1, none⟩ v') base gb pv Aa' ca' Al cl { bk with acs := bk.acs ++ [a] } (ag ++ [gn]) lg := by
  obtain ⟨Aa', ca', hv, -⟩ := own_form ha.own
  refine ⟨Aa', ca', hv, ?_⟩
  have hrow : ∀ k, (Value.slice Aa ag.length ca).ownBlock = some k → ∃ cs, Blk w k 76 cs := fun k hk => own_at h.oa hk
  have f1 := ha.frm
  have hf : Frm (fun k => (Value.slice Aa ag.length ca).ownBlock = some k ∨ k = gb) w (w'.setCell ⟨gb, 1, none⟩ v') := f1.and_then (Frm.one w' ⟨gb, 1, none⟩ v')
  have hno : ∀ (g : Nat) (t : TypeId) (cs : List Value), t ≠ 76 → t ≠ 49 → Blk w g t cs → ¬ ((Value.slice Aa ag.length ca).ownBlock = some g ∨ g = gb) := by
    intro g t cs h1 h2 hbk e
    rcases e with e | rfl
    · obtain ⟨cs', hb'⟩ := hrow g e
      exact hbk.ne hb' h1 rfl
    · exact hbk.ne h.blk h2 rfl
  have hgb : Blk w' gb 49 [pv, .slice Aa ag.length ca, .slice Al lg.length cl, .int .i64 bk.ticks] := h.blk.frm f1 (fun e => by
    obtain ⟨cs', hb'⟩ := hrow gb e
    exact h.blk.ne hb' (by decide) rfl)
  have hact : ∀ (g i : Nat) (a : Ac), ActorAt w base lg g i a → ActorAt (w'.setCell ⟨gb, 1, none⟩ v') base lg g i a := by
    intro g i a ⟨k', A, n, c, hb', hs, ho⟩
    exact ⟨k', A, n, c, hb'.frm hf (hno g _ _ (by decide) (by decide) hb'), hs, ho.frmS hf (fun g t cs ht => hno g t cs (by rcases ht with rfl | rfl | rfl | rfl <;> decide) (by rcases ht with rfl | rfl | rfl | rfl <;> decide))⟩
  refine ⟨?_, h.hb, ?_, own_frm h.ol hf (fun b hb' => ?_), by simp [h.la], h.ll, ?_, h.ndl, ?_, h.gl, ?_, ?_, ?_, ?_⟩
  · have := hgb.set_ 1 v'
    rw [hv] at this ⊢
    simpa using this
  · have ho := own_frm ha.own (Frm.one w' ⟨gb, 1, none⟩ v') (fun b hb' e => by
      obtain ⟨cs', hbk⟩ := own_at ha.own hb'
      exact hbk.ne hgb (by decide) e)
    rw [flatP_add, List.length_append, List.length_singleton, ← hv]
    exact ho
  · obtain ⟨cs', hbk⟩ := own_at h.ol hb'
    exact hno b _ cs' (by decide) (by decide) hbk
  · rw [List.nodup_append]
    refine ⟨h.nda, by simp, ?_⟩
    intro a h1 b h2 e
    simp at h2
    subst h2 e
    exact hni h1
  · intro g hg
    rcases List.mem_append.1 hg with hg | hg
    · exact h.ga g hg
    · simp at hg; subst hg; exact hb
  · intro i x g hx hg
    rcases Nat.lt_or_ge i ag.length with hi | hi
    · rw [List.getElem?_append_left hi] at hg
      rw [List.getElem?_append_left (by rw [← h.la]; exact hi)] at hx
      exact hact g i x (h.ac i x g hx hg)
    · rw [List.getElem?_append_right hi] at hg
      have hi1 := (List.getElem?_eq_some_iff.1 hg).1
      simp at hi1
      obtain rfl : i = ag.length := by omega
      rw [List.getElem?_append_right (by rw [← h.la]; exact hi)] at hx
      rw [← h.la] at hx
      simp at hx hg
      subst hx hg
      exact hact gn _ a hn
  · intro i l g hx hg
    have hb' := h.lt i l g hx hg
    exact hb'.frm hf (hno g _ _ (by decide) (by decide) hb')
  · intro x hx j hj
    rcases List.mem_append.1 hx with hx | hx
    · exact h.wk x hx j hj
    · simp at hx; subst hx; rw [hwk] at hj; cases hj
  · intro x hx
    rcases List.mem_append.1 hx with hx | hx
    · exact h.kf x hx
    · simp at hx; subst hx; exact hkf
end
end Go.Proofs.Ytkjjhndccelbcaa
