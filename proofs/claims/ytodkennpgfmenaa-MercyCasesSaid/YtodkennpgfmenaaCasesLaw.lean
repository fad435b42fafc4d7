/- MercyCases: the walk. -/
import Derived.Test.YtodkennpgfmenaaAlive
import Derived.Lib.QuietBelow
namespace Go.Proofs.Ytodkennpgfmenaa
open Go.RowKit Go.Maps Go.Troupe Go.Sort

set_option maxRecDepth 100000 in
set_option maxHeartbeats 400000 in
theorem cases_walk (Ad : Option Addr) (n c : Nat) (l : List Case) (r : ByteArray) (w : World) (hl : l.length = n) (hn : n ≤ maxLen) (hc : Cells w w.heap.size Ad (flatC l)) :
    Calls Try.prog 3 #[.slice Ad n c, .string r] w fun e w' => e = .returned (.bool true) ∧ Below w.heap.size w w' := by
  have C0 := Troupe.hid hc
  have HN := Troupe.hid hn
  clear hc hn
  go_enter Try.func3, Try.ntmps3
  go_wp2_with fail
  refine (alive_any w).mono ?_
  rintro e w1 ⟨rfl, hb⟩
  have hb2 : Below w.heap.size w (w1.alloc (.cells #[.string ⟨#[]⟩, .int .i64 0, .int .i64 0, .slice Ad n c, .slice none 0 0] 26)) := hb.alloc hb.size _
  have K2 : Blk (w1.alloc (.cells #[.string ⟨#[]⟩, .int .i64 0, .int .i64 0, .slice Ad n c, .slice none 0 0] 26)) w1.heap.size 26 [.string ⟨#[]⟩, .int .i64 0, .int .i64 0, .slice Ad n c, .slice none 0 0] := Blk.new _ _ _
  have B2 := Troupe.hid hb2
  have KK := Troupe.hid K2
  clear hb hb2 K2
  go_wp2_with fail
  generalize w1.alloc (.cells #[.string ⟨#[]⟩, .int .i64 0, .int .i64 0, .slice Ad n c, .slice none 0 0] 26) = w2 at *
  have ec := fun d os => (KK.out.below (below_regrown w2 d os) KK.out.lt).cell
  have CC : Hid (∀ d os, Cells (grow (redrawn w2 d) os) (grow (redrawn w2 d) os).heap.size Ad (flatC l)) := fun d os => ((C0.out.below B2.out).below ((below_regrown w2 d os).mono B2.out.size)).mono (Nat.le_trans B2.out.size (below_regrown w2 d os).size)
  have D9 : Hid (∀ s d os, Calls Try.prog 9 #[.agg #[.string ⟨#[]⟩, .int .i64 0, .int .i64 0, .slice Ad n c, .slice none 0 0], .string s] (grow (redrawn w2 d) os) fun e w' => e = .returned (.int .i64 (dirC l s)) ∧ Below (grow (redrawn w2 d) os).heap.size (grow (redrawn w2 d) os) w') :=
    fun s d os => directive_any s Ad n c l _ hl HN.out (CC.out d os)
  have D10 : Hid (∀ s d os, Calls Try.prog 10 #[.agg #[.string ⟨#[]⟩, .int .i64 0, .int .i64 0, .slice Ad n c, .slice none 0 0], .string s] (grow (redrawn w2 d) os) fun e w' => e = .returned (.int .i64 (dirC l s)) ∧ Below (grow (redrawn w2 d) os).heap.size (grow (redrawn w2 d) os) w') :=
    fun s d os => refDirective_any s Ad n c l _ hl HN.out (CC.out d os)
  refine wp_region_quiet_below (by kernel_rfl) (by kernel_rfl) ?_
  repeat (quiet_step (first | exact Calls.regrown_of (D9.out _ _ _) | exact Calls.regrown_of (D10.out _ _ _)))
  refine wpQuiet_nil ?_
  intro w' hw'
  obtain ⟨⟨d, os⟩, hw''⟩ := hw'
  subst hw''
  have B3 := Troupe.hid (B2.out.trans ((below_regrown w2 d os).mono B2.out.size))
  clear ec
  go_wp2_with fail
  go_ret
  exact ⟨rfl, B3.out⟩
end Go.Proofs.Ytodkennpgfmenaa
