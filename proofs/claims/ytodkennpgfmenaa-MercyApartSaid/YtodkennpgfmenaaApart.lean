/- MercyApart: the walk. -/
import Derived.Test.YtodkennpgfmenaaKept
import Derived.Deep.RegionHeld3
namespace Go.Proofs.Ytodkennpgfmenaa
open Go.RowKit Go.Maps Go.Troupe

/-- Two budgets that share nothing. -/
def AB (w wr : World) (pa ma pb mb : Nat) (L W : Int) (child : Int) (Ta Tb : List Int) (B : Nat) : Prop :=
  ∃ Sa Ga Sb Gb, Budget wr pa ma Sa L W Ga ∧ Budget wr pb mb Sb L W Gb ∧ Ga child = Ta ∧ Gb child = Tb ∧ (∀ c, (Ga c).length ≤ B) ∧ (∀ c, (Gb c).length ≤ B) ∧
    (∀ k, Sa k → w.heap.size ≤ k ∧ k < wr.heap.size) ∧ (∀ k, Sb k → w.heap.size ≤ k ∧ k < wr.heap.size) ∧ (∀ k, Sa k → ¬ Sb k) ∧ Below w.heap.size w wr
section
variable {w wr : World} {pa ma pb mb : Nat} {L W : Int} {child : Int} {Ta Tb : List Int} {B : Nat}
theorem AB.be (h : AB w wr pa ma pb mb L W child Ta Tb B) : Below w.heap.size w wr := by
  obtain ⟨_, _, _, _, _, _, _, _, _, _, _, _, _, h⟩ := h; exact h
theorem AB.swap (h : AB w wr pa ma pb mb L W child Ta Tb B) : AB w wr pb mb pa ma L W child Tb Ta B := by
  obtain ⟨Sa, Ga, Sb, Gb, h1, h2, h3, h4, h5, h6, h7, h8, h9, h0⟩ := h
  exact ⟨Sb, Gb, Sa, Ga, h2, h1, h4, h3, h6, h5, h8, h7, fun k hb ha => h9 k ha hb, h0⟩
theorem AB.up (h : AB w wr pa ma pb mb L W child Ta Tb B) {B' : Nat} (hB : B ≤ B') : AB w wr pa ma pb mb L W child Ta Tb B' := by
  obtain ⟨Sa, Ga, Sb, Gb, h1, h2, h3, h4, h5, h6, h7, h8, h9, h0⟩ := h
  exact ⟨Sa, Ga, Sb, Gb, h1, h2, h3, h4, fun c => Nat.le_trans (h5 c) hB, fun c => Nat.le_trans (h6 c) hB, h7, h8, h9, h0⟩
theorem AB.drew (h : AB w wr pa ma pb mb L W child Ta Tb B) : AB w wr.drew pa ma pb mb L W child Ta Tb B := by
  obtain ⟨Sa, Ga, Sb, Gb, h1, h2, h3, h4, h5, h6, h7, h8, h9, h0⟩ := h
  have F : Frm (fun _ => False) wr wr.drew := Frm.of_heap rfl rfl rfl rfl
  exact ⟨Sa, Ga, Sb, Gb, h1.frm F (fun _ _ h => h.elim), h2.frm F (fun _ _ h => h.elim), h3, h4, h5, h6, h7, h8, h9, h0.trans (F.below h0.size (fun _ h => h.elim))⟩
/-- After one of them has changed. -/
theorem AB.step {w' : World} {Sa Sb Sa' : Nat → Prop} {Gb Ga' : Int → List Int} {B' : Nat} (h2 : Budget wr pb mb Sb L W Gb) (h4 : Gb child = Tb) (h6 : ∀ c, (Gb c).length ≤ B')
    (h7 : ∀ k, Sa k → w.heap.size ≤ k ∧ k < wr.heap.size) (h8 : ∀ k, Sb k → w.heap.size ≤ k ∧ k < wr.heap.size) (h9 : ∀ k, Sa k → ¬ Sb k) (h0 : Below w.heap.size w wr)
    (g1 : Budget w' pa ma Sa' L W Ga') (g2 : ∀ k, Sa' k → Sa k ∨ (wr.heap.size ≤ k ∧ k < w'.heap.size)) (g3 : Frm Sa wr w') (g5 : ∀ c, (Ga' c).length ≤ B') :
    AB w w' pa ma pb mb L W child (Ga' child) Tb B' := by
  have hs := g3.size
  have hs0 := h0.size
  refine ⟨Sa', Ga', Sb, Gb, g1, h2.frm g3 (fun k _ h => h9 k h), rfl, h4, g5, h6, fun k hk => ?_, fun k hk => ?_, fun k ha hb => ?_, h0.trans (g3.below hs0 (fun k hk => (h7 k hk).1))⟩
  · rcases g2 k hk with h | h
    · have := h7 k h; omega
    · omega
  · have := h8 k hk; omega
  · rcases g2 k ha with h | h
    · exact h9 k h hb
    · have := h8 k hb; omega
def nextT (L W : Int) (T : List Int) (N : Int) : List Int := if leftOf L T N W == 0 then T else T ++ [N]
def answer (L W : Int) (T : List Int) (N : Int) : Bool := !(leftOf L T N W == 0)
/-- The child asks one of them. -/
theorem AB.ask (h : AB w wr pa ma pb mb L W child Ta Tb B) (now : Int) (hB : B ≤ 1000000) :
    Calls Try.prog 12 #[.pointer (some ⟨pa, 0, none⟩), .int .i64 child, .int .i64 now] wr fun e w' => e = .returned (.bool (answer L W Ta (clamp now 0 1099511627776))) ∧ AB w w' pa ma pb mb L W child (nextT L W Ta (clamp now 0 1099511627776)) Tb (B + 1) := by
  obtain ⟨Sa, Ga, Sb, Gb, h1, h2, h3, h4, h5, h6, h7, h8, h9, h0⟩ := h
  refine (ask_any child now wr h1 (Nat.le_trans (h5 _) hB)).mono ?_
  rintro e w' ⟨he, S', g1, g2, g3⟩
  rw [h3] at he g1
  refine ⟨he, ?_⟩
  have := AB.step h2 h4 (fun c => Nat.le_succ_of_le (h6 c)) h7 h8 h9 h0 g1 g2 g3 (fun c => by
    split
    · exact Nat.le_succ_of_le (h5 c)
    · unfold give; split
      · have := h5 c; simp; omega
      · exact Nat.le_succ_of_le (h5 c))
  have e : (if leftOf L Ta (clamp now 0 1099511627776) W == 0 then Ga else give Ga child (clamp now 0 1099511627776)) child = nextT L W Ta (clamp now 0 1099511627776) := by
    unfold nextT
    split
    · exact h3
    · simp [give, h3]
  rw [e] at this
  exact this
/-- Another asks one of them. -/
theorem AB.other (h : AB w wr pa ma pb mb L W child Ta Tb B) {o : Int} (ho : o ≠ child) (now : Int) (hB : B ≤ 1000000) :
    Calls Try.prog 12 #[.pointer (some ⟨pb, 0, none⟩), .int .i64 o, .int .i64 now] wr fun e w' => (∃ r, e = .returned (.bool r)) ∧ AB w w' pa ma pb mb L W child Ta Tb (B + 1) := by
  obtain ⟨Sb, Gb, Sa, Ga, h1, h2, h3, h4, h5, h6, h7, h8, h9, h0⟩ := h.swap
  refine (ask_any o now wr h1 (Nat.le_trans (h5 _) hB)).mono ?_
  rintro e w' ⟨he, S', g1, g2, g3⟩
  refine ⟨⟨_, he⟩, ?_⟩
  have := AB.step (child := child) h2 h4 (fun c => Nat.le_succ_of_le (h6 c)) h7 h8 h9 h0 g1 g2 g3 (fun c => by
    split
    · exact Nat.le_succ_of_le (h5 c)
    · unfold give; split
      · have := h5 c; simp; omega
      · exact Nat.le_succ_of_le (h5 c))
  have e : (if leftOf L (Gb o) (clamp now 0 1099511627776) W == 0 then Gb else give Gb o (clamp now 0 1099511627776)) child = Tb := by
    split
    · exact h3
    · unfold give; rw [if_neg (Ne.symm ho)]; exact h3
  rw [e] at this
  exact this.swap
theorem AB.forget (h : AB w wr pa ma pb mb L W child Ta Tb B) {o : Int} (ho : o ≠ child) :
    Calls Try.prog 15 #[.pointer (some ⟨pb, 0, none⟩), .int .i64 o] wr fun e w' => e = .returned (.tuple #[]) ∧ AB w w' pa ma pb mb L W child Ta Tb B := by
  obtain ⟨Sb, Gb, Sa, Ga, h1, h2, h3, h4, h5, h6, h7, h8, h9, h0⟩ := h.swap
  refine (forget_any o wr h1).mono ?_
  rintro e w' ⟨rfl, g1, g3⟩
  refine ⟨rfl, ?_⟩
  have := AB.step (child := child) h2 h4 h6 h7 h8 h9 h0 g1 (fun k hk => .inl hk) g3 (fun c => by
    by_cases hc : c = o
    · simp [hc]
    · simp only [if_neg hc]; exact h5 c)
  simp only [if_neg (Ne.symm ho), h3] at this
  exact this.swap
end
theorem AB.new {w w1 w2 w3 : World} {l i : Int} {pa ma : Nat} {child : Int} {e : Ending} (hb : Below w.heap.size w w1) (h1 : Budget w2 pa ma (fun k => w1.heap.size ≤ k ∧ k < w2.heap.size) (clamp l 0 100) (clamp i 1 4095) (fun _ => [])) (h2 : Below w1.heap.size w1 w2) (h3 : IsNew l i w2 e w3) :
    ∃ pb mb, e = .returned (.pointer (some ⟨pb, 0, none⟩)) ∧ AB w w3 pa ma pb mb (clamp l 0 100) (clamp i 1 4095) child [] [] 0 := by
  obtain ⟨pb, mb, rfl, h4, h5⟩ := h3
  have s1 := hb.size
  have s2 := h2.size
  have s3 := h5.size
  refine ⟨pb, mb, rfl, _, _, _, _, h1.below h5, h4, rfl, rfl, fun _ => Nat.le_refl _, fun _ => Nat.le_refl _, fun k hk => by omega, fun k hk => by omega, fun k ha hb => by omega, ?_⟩
  exact (hb.trans (h2.mono s1)).trans (h5.mono (by omega))
def nums (l : List Int) : List Value := l.map (Value.int .i64)

set_option maxRecDepth 100000 in
set_option maxHeartbeats 1000000 in
theorem apart_walk (limit within child : Int) (A1 : Option Addr) (n1 c1 : Nat) (A2 : Option Addr) (n2 c2 : Nat) (l1 l2 : List Int) (w : World) (hl1 : l1.length = n1) (hl2 : l2.length = n2)
    (hc1 : Cells w w.heap.size A1 (nums l1)) (hc2 : Cells w w.heap.size A2 (nums l2)) :
    Calls Try.prog 6 #[.int .i64 limit, .int .i64 within, .int .i64 child, .slice A1 n1 c1, .slice A2 n2 c2] w fun e w' => e = .returned (.bool true) ∧ Below w.heap.size w w' := by
  have C1 := Troupe.hid hc1
  have C2 := Troupe.hid hc2
  clear hc1 hc2
  go_enter Try.func6, Try.ntmps6
  go_wp2_with fail
  refine (alive_any w).mono ?_
  rintro e w1 ⟨rfl, hb1⟩
  have B1 := Troupe.hid hb1
  clear hb1
  go_wp2_with fail
  refine (new_any limit within w1).mono ?_
  rintro e w2 ⟨pa, ma, rfl, hba, hb2⟩
  have HA := Troupe.hid hba
  have B2 := Troupe.hid hb2
  clear hba hb2
  go_wp2_with fail
  refine (new_any limit within w2).mono ?_
  intro e w3 hnew
  obtain ⟨pb, mb, rfl, hab⟩ := AB.new (child := child) B1.out HA.out B2.out hnew
  have R0 := Troupe.hid hab
  clear hnew hab
  generalize clamp limit 0 100 = L at *
  generalize clamp within 1 4095 = W at *
  go_wp2_with fail
  go_loopw [13] (fun v13 wr => ∃ (i : Nat) (T : List Int), i ≤ n1 ∧ i ≤ 100 ∧ v13 = .int .i64 i ∧ AB w wr pa ma pb mb L W child T T (50 * i)) (fun v13 _ => n1 - (intOf v13).toNat)
  case atStart => exact ⟨0, [], by omega, by omega, rfl, R0.out⟩
  case round =>
    obtain ⟨i, T, hi, hi2, rfl, hab⟩ := hrel
    have R := Troupe.hid hab
    clear hab
    by_cases hlt : i < n1 ∧ i < 100
    · obtain ⟨hlt, hlt2⟩ := hlt
      have hib : (i : Int) < 100 := by omega
      obtain ⟨x, hx⟩ : ∃ x, l1[i]? = some x := ⟨_, List.getElem?_eq_getElem (by omega)⟩
      obtain ⟨b1, off1, hA1, _, h1⟩ := C1.out.at_ (by intro e; have := congrArg List.length e; simp [nums] at this; subst this; simp at hx)
      have hx1 : w.cell? ⟨b1, off1 + i, none⟩ = some (.int .i64 x) := h1 i _ (by simp [nums, hx])
      have CX : Hid (∀ W', Below w.heap.size w W' → W'.cell? ⟨b1, off1 + i, none⟩ = some (.int .i64 x)) := fun W' h => (h.cell (block_lt_of_cell hx1)).trans hx1
      subst hA1
      clear h1 hx hx1
      go_upto_block 2 with (fail)
      go_cut [14] from 23 to 82 (fun _ w' => AB w w' pa ma pb mb L W child T T (50 * i + 20))
      case first =>
        go_wp2_with fail
        go_loopw [14] (fun v14 wq => ∃ k : Nat, k ≤ n2 ∧ k ≤ 20 ∧ v14 = .int .i64 k ∧ AB w wq pa ma pb mb L W child T T (50 * i + k)) (fun v14 _ => n2 - (intOf v14).toNat)
        case atStart => exact ⟨0, by omega, by omega, rfl, R.out⟩
        case round =>
          obtain ⟨k, hk, hk2, rfl, hab⟩ := hrel
          have Q := Troupe.hid hab
          clear hab
          by_cases hkt : k < n2 ∧ k < 20
          · obtain ⟨hkt, hkt2⟩ := hkt
            have hkb : (k : Int) < 20 := by omega
            obtain ⟨o, ho⟩ : ∃ o, l2[k]? = some o := ⟨_, List.getElem?_eq_getElem (by omega)⟩
            obtain ⟨b2, off2, hA2, _, h2⟩ := C2.out.at_ (by intro e; have := congrArg List.length e; simp [nums] at this; subst this; simp at ho)
            have ho1 : w.cell? ⟨b2, off2 + k, none⟩ = some (.int .i64 o) := h2 k _ (by simp [nums, ho])
            have CO : Hid (∀ W', Below w.heap.size w W' → W'.cell? ⟨b2, off2 + k, none⟩ = some (.int .i64 o)) := fun W' h => (h.cell (block_lt_of_cell ho1)).trans ho1
            subst hA2
            clear h2 ho ho1
            have cx := CX.out wr Q.out.be
            have co := CO.out wr Q.out.be
            by_cases hoc : o = child
            · have h1 : (o == child) = true := by simp [hoc]
              have h2 : (o != child) = false := by simp [hoc]
              clear hoc
              go_wp2_with fail
              go_roundw
              case rel => exact ⟨k + 1, by omega, by omega, by go_num, Q.out.up (by omega)⟩
              case measure => simp [intOf]; omega
            · have h1 : (o == child) = false := by simp [hoc]
              have h2 : (o != child) = true := by simp [hoc]
              by_cases h3 : i % 3 = 2
              · have hm : ((i : Int) % 3 == 2) = true := by simp; omega
                go_wp2_with fail
                go_region_held3 (fun w' => w'.cell? ⟨b1, off1 + i, none⟩ = some (.int .i64 x) ∧ w'.cell? ⟨b2, off2 + k, none⟩ = some (.int .i64 o)) (go_keep)
                  (first | (go_at_call 12; refine (AB.other Q.out.drew hoc _ (by omega)).mono ?_; rintro e w4 ⟨⟨r, rfl⟩, h4⟩; have k1 := CX.out w4 h4.be; have k2 := CO.out w4 h4.be; have Q4 := Troupe.hid h4; clear h4))
                all_goals go_wp2_with fail
                all_goals refine (AB.forget Q4.out hoc).mono ?_
                all_goals rintro e w5 ⟨rfl, h5⟩
                all_goals have Q5 := Troupe.hid h5
                all_goals clear h5
                all_goals go_wp2_with fail
                all_goals go_roundw
                case rel => exact ⟨k + 1, by omega, by omega, by go_num, Q5.out.up (by omega)⟩
                case measure => simp [intOf]; omega
              · have hm : ((i : Int) % 3 == 2) = false := by rw [beq_eq_false_iff_ne]; omega
                go_wp2_with fail
                go_region_held3 (fun w' => w'.cell? ⟨b1, off1 + i, none⟩ = some (.int .i64 x) ∧ w'.cell? ⟨b2, off2 + k, none⟩ = some (.int .i64 o)) (go_keep)
                  (first | (go_at_call 12; refine (AB.other Q.out.drew hoc _ (by omega)).mono ?_; rintro e w4 ⟨⟨r, rfl⟩, h4⟩; have k1 := CX.out w4 h4.be; have k2 := CO.out w4 h4.be; have Q4 := Troupe.hid h4; clear h4))
                all_goals go_wp2_with fail
                all_goals go_roundw
                case rel => exact ⟨k + 1, by omega, by omega, by go_num, Q4.out.up (by omega)⟩
                case measure => simp [intOf]; omega
          · by_cases hk3 : k < n2
            · have hk4 : ¬ k < 20 := fun h => hkt ⟨hk3, h⟩
              clear hkt
              go_wp2_with fail
              go_meet
              case rel => exact Q.out.up (by omega)
            · clear hkt
              go_wp2_with fail
              go_meet
              case rel => exact Q.out.up (by omega)
      case rest =>
        obtain ⟨w4, rfl⟩ : ∃ w4 : World, w4 = wc := ⟨_, rfl⟩
        have Q := Troupe.hid hcut
        clear hcut
        have cx := CX.out w4 Q.out.be
        go_wp2_with fail
        go_region_held3 (fun w' => w'.cell? ⟨b1, off1 + i, none⟩ = some (.int .i64 x)) (go_keep)
          (first
            | (go_at_call_of 12 (Value.pointer (some ⟨pa, 0, none⟩)); refine (AB.ask Q.out.drew _ (by omega)).mono ?_; rintro e w5 ⟨rfl, h5⟩; have k1 := CX.out w5 h5.be; have Q5 := Troupe.hid h5; clear h5)
            | (go_at_call_of 12 (Value.pointer (some ⟨pb, 0, none⟩)); refine (AB.ask Q5.out.swap _ (by omega)).mono ?_; rintro e w6 ⟨rfl, h6⟩; have k2 := CX.out w6 h6.be; have Q6 := Troupe.hid h6.swap; clear h6))
        all_goals go_wp2_with fail
        all_goals go_roundw
        case rel => exact ⟨i + 1, nextT L W T (clamp x 0 1099511627776), by omega, by omega, by go_num, Q6.out.up (by omega)⟩
        case measure => simp [intOf]; omega
    · have BE := Troupe.hid R.out.be
      by_cases h1 : i < n1
      · have h2 : ¬ i < 100 := fun h => hlt ⟨h1, h⟩
        clear hlt
        go_wp2_with fail
        go_ret
        exact ⟨rfl, BE.out⟩
      · clear hlt
        go_wp2_with fail
        go_ret
        exact ⟨rfl, BE.out⟩
end Go.Proofs.Ytodkennpgfmenaa
