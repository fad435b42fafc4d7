/- The book with a message written over. -/
import Derived.Test.YtkjjhndccelbcaaGrow
namespace Go.Proofs.Ytkjjhndccelbcaa
open Go.RowKit Go.Maps Go.Troupe

section
variable {w w' : World} {base gb ca cl : Nat} {pv : Value} {Aa Al : Option Addr} {bk : Bk} {ag lg : List Nat}
theorem BookAt.setL (h : BookAt w base gb pv Aa ca Al cl bk ag lg) {i g : Nat} {l l' : Lt} (hx : bk.lts[i]? = some l) (hg : lg[i]? = some g) (hf : Frm (fun x => x = g) w w') (hl : Blk w' g 84 l'.cells) :
    BookAt w' base gb pv Aa ca Al cl (bk.setL i l') ag lg := by
  have hb0 := h.lt i l g hx hg
  have hno : ∀ (b : Nat) (t : TypeId) (cs : List Value), t ≠ 84 → Blk w b t cs → ¬ b = g := fun b t cs ht hb e => hb.ne hb0 ht e
  refine ⟨h.blk.frm hf (hno gb _ _ (by decide) h.blk), h.hb, own_frm h.oa hf (fun b hb e => ?_), own_frm h.ol hf (fun b hb e => ?_), h.la, by simp [Bk.setL, h.ll], h.nda, h.ndl, h.ga, h.gl, ?_, ?_, ?_, h.kf⟩
  · obtain ⟨cs', hbk⟩ := own_at h.oa hb
    exact hno b _ _ (by decide) hbk e
  · obtain ⟨cs', hbk⟩ := own_at h.ol hb
    exact hno b _ _ (by decide) hbk e
  · intro j a gj hj hgj
    obtain ⟨k1, A1, n1, c1, hb1, hs1, ho1⟩ := h.ac j a gj hj hgj
    exact ⟨k1, A1, n1, c1, hb1.frm hf (hno _ _ _ (by decide) hb1), hs1, ho1.frmS hf (fun b t cs ht => hno b t cs (by rcases ht with rfl | rfl | rfl | rfl <;> decide))⟩
  · intro j x gj hj hgj
    rcases set_at hj with ⟨rfl, rfl⟩ | ⟨hij, hj'⟩
    · rw [hg] at hgj; cases hgj; exact hl
    · have hne : gj ≠ g := fun e => hij (nodup_at h.ndl hg (e ▸ hgj))
      exact (h.lt j x gj hj' hgj).frm hf hne
  · intro a ha j hj
    have := h.wk a ha j hj
    simpa [Bk.setL] using this
end
end Go.Proofs.Ytkjjhndccelbcaa
