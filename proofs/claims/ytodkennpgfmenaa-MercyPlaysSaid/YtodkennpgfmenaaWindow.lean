/- MercyWindow: the walk. -/
import Derived.Test.YtodkennpgfmenaaKept
namespace Go.Proofs.Ytodkennpgfmenaa
open Go.RowKit Go.Maps Go.Troupe

def bytes (l : List (Fin 256)) : List Value := l.map fun x => .int .u8 ((x.val : Nat) : Int)
theorem spent_le (T : List Int) (N W : Int) : spent T N W ≤ T.length := List.length_filter_le _ _
theorem spent_snoc (T : List Int) (N W : Int) (hW : 1 ≤ W) : spent (T ++ [N]) N W = spent T N W + 1 := by
  unfold spent
  rw [List.filter_append, List.length_append]
  have : (List.filter (fun t => !decide (t ≤ N - W)) [N]) = [N] := List.filter_eq_self.2 (fun x hx => by simp at hx; subst hx; simp; omega)
  rw [this]; rfl
theorem spent_take (T : List Int) (N W : Int) (k : Nat) (x : Int) (hx : T[k]? = some x) : spent (T.take (k + 1)) N W = spent (T.take k) N W + (if N - W < x then 1 else 0) := by
  unfold spent
  rw [List.take_add_one, hx, List.filter_append, List.length_append]
  by_cases h : N - W < x
  · have : decide (x ≤ N - W) = false := by simp; omega
    simp [this, h]
  · have : decide (x ≤ N - W) = true := by simp; omega
    simp [this, h]
theorem spent_zero (T : List Int) (N W : Int) (h : ∀ t ∈ T, t ≤ N - W) : spent T N W = 0 := by
  unfold spent
  rw [List.filter_eq_nil_iff.2 (fun x hx => by simpa using h x hx)]; rfl
theorem ask_answer (L : Nat) (T : List Int) (N W : Int) : (!(leftOf L T N W == 0)) = decide (spent T N W < L) := by
  unfold leftOf
  by_cases h : spent T N W < L
  · have : ¬ ((L : Int) - spent T N W < 0) := by omega
    rw [if_neg this]; simp [h]; omega
  · have e : (if (L : Int) - spent T N W < 0 then 0 else (L : Int) - spent T N W) = 0 := by split <;> omega
    rw [e]; simp; omega
theorem left_val (L : Nat) (T : List Int) (N W : Int) : leftOf L T N W = ((L - spent T N W : Nat) : Int) := by
  unfold leftOf
  split <;> omega

/-- Between two rounds. -/
structure WR (w wr : World) (p m : Nat) (L W : Nat) (nw : Nat) (T : List Int) (A : Option Addr) (ca : Nat) : Prop where
  own : wr.ownsRow w.heap.size 3 1 (.slice A T.length ca) T.length (T.map (Value.int .i64))
  bud : ∃ S G, Budget wr p m S L W G ∧ G 3 = T ∧ (∀ k, S k → w.heap.size ≤ k ∧ k < wr.heap.size) ∧ ∀ k, (Value.slice A T.length ca).ownBlock = some k → ¬ S k
  le : ∀ t ∈ T, t ≤ nw
  be : Below w.heap.size w wr
theorem clampid {x : Nat} (h : x ≤ 1000000) : clamp x 0 1099511627776 = x := by unfold clamp; rw [if_neg (by omega), if_neg (by omega)]
/-- What an Ask leaves. -/
def WA (w : World) (p m : Nat) (L W : Nat) (nw : Nat) (T : List Int) (A : Option Addr) (ca : Nat) (e : Ending) (w' : World) : Prop :=
  e = .returned (.bool (decide (spent T nw W < L))) ∧ w'.ownsRow w.heap.size 3 1 (.slice A T.length ca) T.length (T.map (Value.int .i64)) ∧ Below w.heap.size w w' ∧
    ∃ S G, Budget w' p m S L W G ∧ G 3 = (if spent T nw W < L then T ++ [(nw : Int)] else T) ∧ (∀ k, S k → w.heap.size ≤ k ∧ k < w'.heap.size) ∧ ∀ k, (Value.slice A T.length ca).ownBlock = some k → ¬ S k
theorem WR.ask {w wr : World} {p m L W nw nw2 : Nat} {T : List Int} {A : Option Addr} {ca : Nat} (h : WR w wr p m L W nw T A ca) (hT : T.length ≤ 1000) (hn : nw2 ≤ 1000000) :
    Calls Try.prog 12 #[.pointer (some ⟨p, 0, none⟩), .int .i64 3, .int .i64 nw2] wr (WA w p m L W nw2 T A ca) := by
  obtain ⟨S, G, hb, hG, hS, hA⟩ := h.bud
  refine (ask_any 3 nw2 wr hb (by rw [hG]; omega)).mono ?_
  rintro e w' ⟨he, S', h1, h2, h3⟩
  rw [clampid hn, hG, ask_answer] at he
  rw [clampid hn, hG] at h1
  have hans := ask_answer L T nw2 W
  refine ⟨he, own_frm h.own h3 hA, h.be.trans (h3.below h.be.size (fun k hk => (hS k hk).1)), S', _, h1, ?_, fun k hk => ?_, fun k hk hs => ?_⟩
  · by_cases hs : spent T nw2 W < L
    · have : (leftOf (L : Int) T nw2 W == 0) = false := by rw [decide_eq_true hs] at hans; simpa using hans
      rw [this, if_pos hs]; simp [give, hG]
    · have : (leftOf (L : Int) T nw2 W == 0) = true := by rw [decide_eq_false hs] at hans; simpa using hans
      rw [this, if_neg hs]; simpa using hG
  · rcases h2 k hk with h' | h'
    · have := hS k h'; have := h3.size; omega
    · have := h.be.size; omega
  · rcases h2 k hs with h' | h'
    · exact hA k hk h'
    · have hlt : k < wr.heap.size := by obtain ⟨cs, hbk⟩ := own_at h.own hk; exact hbk.lt
      omega

set_option maxRecDepth 100000 in
set_option maxHeartbeats 1000000 in
theorem window_walk (a b : Nat) (Ad : Option Addr) (n c : Nat) (l : List (Fin 256)) (w : World) (ha : a < 256) (hb : b < 256) (hl : l.length = n) (hc : Cells w w.heap.size Ad (bytes l)) :
    Calls Try.prog 4 #[.int .u8 (a : Int), .int .u8 (b : Int), .slice Ad n c] w fun e w' => e = .returned (.bool true) ∧ Below w.heap.size w w' := by
  have C0 := Troupe.hid hc
  clear hc
  go_enter Try.func4, Try.ntmps4
  go_wp2_with fail
  refine (alive_any w).mono ?_
  rintro e w1 ⟨rfl, hb1⟩
  have B1 := Troupe.hid hb1
  clear hb1
  go_wp2_with fail
  obtain ⟨L, hL, hL5⟩ : ∃ L : Nat, ((a : Int) % 6) = L ∧ L ≤ 5 := ⟨a % 6, by omega, by omega⟩
  obtain ⟨W, hW, hW1, hW2⟩ : ∃ W : Nat, (1 + (b : Int) % 20) = W ∧ 1 ≤ W ∧ W ≤ 20 := ⟨1 + b % 20, by omega, by omega, by omega⟩
  rw [hL, hW]
  generalize ((a : Int) % 6) = xa at *
  generalize (1 + (b : Int) % 20) = xb at *
  subst hL hW
  generalize ((b : Int) % 20) = xc at *
  refine (new_any L W w1).mono ?_
  rintro e w2 ⟨p, m, rfl, hbud, hb2⟩
  have e1 : clamp (L : Int) 0 100 = L := by unfold clamp; rw [if_neg (by omega), if_neg (by omega)]
  have e2 : clamp (W : Int) 1 4095 = W := by unfold clamp; rw [if_neg (by omega), if_neg (by omega)]
  rw [e1, e2] at hbud
  have hbb := B1.out.trans (hb2.mono B1.out.size)
  have R0 : Hid (WR w w2 p m L W 0 [] none 0) := ⟨World.ownsRow_nil _ _ _ _, ⟨_, _, hbud, rfl, fun k hk => by have := B1.out.size; omega, fun k hk => by simp [Value.ownBlock] at hk⟩, by simp, hbb⟩
  clear hbud hb2 hbb e1 e2
  go_wp2_with fail
  go_loopw [10, 11, 12] (fun v10 v11 v12 wr => ∃ (j nw : Nat) (T : List Int) (A : Option Addr) (ca : Nat), j ≤ n ∧ j ≤ 200 ∧ v12 = .int .i64 j ∧ v10 = .int .i64 nw ∧ nw ≤ 7 * j ∧ T.length ≤ j ∧ v11 = .slice A T.length ca ∧ WR w wr p m L W nw T A ca) (fun _ _ v12 _ => n - (intOf v12).toNat)
  case atStart => exact ⟨0, 0, [], none, 0, by omega, by omega, rfl, rfl, by omega, by simp, rfl, R0.out⟩
  case round =>
    obtain ⟨j, nw, T, A, ca, hj, hj2, rfl, rfl, hnw, hTj, rfl, hr⟩ := hrel
    have R := Troupe.hid hr
    clear hr
    by_cases hlt : j < n ∧ j < 200
    · obtain ⟨hlt, hlt2⟩ := hlt
      obtain ⟨x, hx⟩ : ∃ x, l[j]? = some x := ⟨_, List.getElem?_eq_getElem (by omega)⟩
      obtain ⟨b3, off, rfl, _, h1⟩ := (C0.out.below R.out.be).at_ (by intro e; have := congrArg List.length e; simp [bytes] at this; subst this; simp at hx)
      have c0 : wr.cell? ⟨b3, off + j, none⟩ = some (.int .u8 ((x.val : Nat) : Int)) := h1 j _ (by simp [bytes, hx])
      have hx2 := x.isLt
      obtain ⟨y, hy⟩ : ∃ y : Nat, x.val = y := ⟨_, rfl⟩
      rw [hy] at c0 hx2
      clear h1 hx hy x
      go_wp2_with fail
      obtain ⟨nw2, hnw2, hle, hge⟩ : ∃ k : Nat, ((nw : Int) + (y : Int) % 8) = k ∧ k ≤ 7 * (j + 1) ∧ nw ≤ k := ⟨nw + y % 8, by omega, by omega, by omega⟩
      rw [hnw2]
      generalize ((nw : Int) + (y : Int) % 8) = xd at *
      generalize ((y : Int) % 8) = xe at *
      clear hnw2 xd
      refine (R.out.ask (nw2 := nw2) (by omega) (by omega)).mono ?_
      rintro e w3 ⟨rfl, hown, hbe, hbud⟩
      have OWN := Troupe.hid hown
      have BE := Troupe.hid hbe
      have BUD := Troupe.hid hbud
      have LT : Hid (∀ t ∈ T, t ≤ (nw2 : Int)) := fun t ht => by have := R.out.le t ht; omega
      obtain ⟨A1, ca1, hv1, _, _, hcT, _, _⟩ := own_form hown
      simp only [Value.slice.injEq, true_and] at hv1
      obtain ⟨rfl, rfl⟩ := hv1
      have CT := Troupe.hid hcT
      clear hown hbe hbud hcT c0
      go_upto_block 2 with (fail)
      go_cut [14, 15] from 28 to 88 (fun v14 _ w' => v14 = .int .i64 (spent T nw2 W) ∧ w' = w3)
      case first =>
        go_wp2_with fail
        go_loopw [14, 15] (fun v14 v15 wr => ∃ k : Nat, k ≤ T.length ∧ v15 = .int .i64 k ∧ v14 = .int .i64 (spent (T.take k) nw2 W) ∧ wr = w3) (fun _ v15 _ => T.length - (intOf v15).toNat)
        case atStart => exact ⟨0, by omega, rfl, by simp [spent], rfl⟩
        case round =>
          obtain ⟨k, hk, rfl, rfl, hw3⟩ := hrel
          obtain rfl := hw3.symm
          by_cases hk2 : k < T.length
          · obtain ⟨t, ht⟩ : ∃ t, T[k]? = some t := ⟨_, List.getElem?_eq_getElem hk2⟩
            obtain ⟨b4, off4, hA4, _, h4⟩ := CT.out.at_ (by intro e; have := congrArg List.length e; simp at this; subst this; simp at hk2)
            subst hA4
            have c1 : w3.cell? ⟨b4, off4 + k, none⟩ = some (.int .i64 t) := h4 k _ (by simp [ht])
            have hst := spent_take T nw2 W k t ht
            have hsl := spent_le (T.take k) nw2 W
            rw [List.length_take] at hsl
            have ST := Troupe.hid hst
            have hwr : IntKind.i64.wrap ((nw2 : Int) - (W : Int)) = (nw2 : Int) - (W : Int) := IntWalk.i64_in _ (by omega)
            clear h4 hst ht
            by_cases hgt : (nw2 : Int) - (W : Int) < t
            · have hs1 : spent (T.take (k + 1)) nw2 W = spent (T.take k) nw2 W + 1 := by rw [ST.out, if_pos hgt]
              have S1 := Troupe.hid hs1
              clear hs1
              go_wp2_with fail
              go_roundw
              case rel => exact ⟨k + 1, by omega, by go_num, by rw [S1.out]; go_num, by trivial⟩
              case measure => simp [intOf]; omega
            · have hs1 : spent (T.take (k + 1)) nw2 W = spent (T.take k) nw2 W := by rw [ST.out, if_neg hgt]; rfl
              have S1 := Troupe.hid hs1
              clear hs1
              go_wp2_with fail
              go_roundw
              case rel => exact ⟨k + 1, by omega, by go_num, by rw [S1.out], by trivial⟩
              case measure => simp [intOf]; omega
          · have hkT : T.take k = T := List.take_of_length_le (by omega)
            have KT := Troupe.hid hkT
            clear hkT
            go_wp2_with fail
            go_meet
            case rel => exact ⟨by rw [KT.out], by trivial⟩
      case rest =>
        obtain ⟨rfl, hw3⟩ := hcut
        obtain rfl := hw3.symm
        obtain ⟨S, G, hbud, hG, hS, hA⟩ := BUD.out
        have hsp := spent_le T nw2 W
        have hw1 : IntKind.i64.wrap ((L : Int) - (spent T nw2 W : Int)) = (L : Int) - (spent T nw2 W : Int) := IntWalk.i64_in _ (by omega)
        by_cases hs : spent T nw2 W < L
        · rw [if_pos hs] at hG
          have e := decide_eq_true hs
          have d1 : decide ((spent T nw2 W : Int) < (L : Int)) = true := decide_eq_true (by omega)
          rw [e]
          obtain ⟨d, hd⟩ : ∃ d : Nat, d = L - (spent T nw2 W + 1) := ⟨_, rfl⟩
          have hw2 : IntKind.i64.wrap ((L : Int) - (spent T nw2 W : Int) - 1) = (d : Int) := by rw [IntWalk.i64_in _ (by omega)]; omega
          have hlv : leftOf L (G 3) (clamp nw2 0 1099511627776) W = d := by
            rw [clampid (by omega), hG, left_val, spent_snoc T nw2 W (by omega), hd]
          have LE : Hid (Calls Try.prog 13 #[.pointer (some ⟨p, 0, none⟩), .int .i64 3, .int .i64 nw2] w3 fun e w' => e = .returned (.int .i64 d) ∧ Below w3.heap.size w3 w') := by
            have := left_any 3 nw2 w3 hbud (by rw [hG]; simp; omega)
            rw [hlv] at this
            exact this
          have BU := Troupe.hid hbud
          have HG := Troupe.hid hG
          have HS := Troupe.hid hS
          have HA := Troupe.hid hA
          clear hbud hG hS hA hlv hd
          go_wp2_with fail
          refine LE.out.mono ?_
          rintro e4 w4 ⟨rfl, hb4⟩
          have hw3s := BE.out.size
          have hw4s := hb4.size
          have FR5 : Frm (fun k => w3.heap.size ≤ k) w3 (w4.alloc (.cells #[.int .i64 nw2] 3)) := (Frm.of_below hb4).alloc _
          have OC5 := Troupe.hid (own_frm OWN.out FR5 (fun k hk h => by obtain ⟨cs, hbk⟩ := own_at OWN.out hk; have := hbk.lt; omega))
          have BU5 := Troupe.hid (BU.out.frm FR5 (fun k _ h hk => by have := (HS.out k hk).2; omega))
          have B3 : Blk (w4.alloc (.cells #[.int .i64 nw2] 3)) w4.heap.size 3 [.int .i64 nw2] := cells_one w4 3 _
          have C5 := Troupe.hid B3.blk_cells
          have hs5 : (w4.alloc (.cells #[.int .i64 nw2] 3)).heap.size = w4.heap.size + 1 := by simp
          have BS : Hid (w.heap.size ≤ (w4.alloc (.cells #[.int .i64 nw2] 3)).heap.size) := by unfold Hid; omega
          have BE5 := Troupe.hid (BE.out.trans ((FR5.below (B := w3.heap.size) (Nat.le_refl _) (fun _ h => h)).mono BE.out.size))
          clear hb4 B3 FR5
          have ROUND : Hid (∀ v' w5, Appended (w4.alloc (.cells #[.int .i64 nw2] 3)) w5 w.heap.size 3 1 (.slice A T.length ca) v' (T.length + 1) (T.map (Value.int .i64) ++ [.int .i64 nw2]) →
              ∃ (j' nw' : Nat) (T' : List Int) (A' : Option Addr) (ca' : Nat), j' ≤ n ∧ j' ≤ 200 ∧ Value.int .i64 ((j : Int) + 1) = .int .i64 j' ∧ Value.int .i64 (nw2 : Int) = .int .i64 nw' ∧ nw' ≤ 7 * j' ∧ T'.length ≤ j' ∧ v' = .slice A' T'.length ca' ∧ WR w w5 p m L W nw' T' A' ca') := by
            intro v' w5 h5
            obtain ⟨A', ca', hv', -, -, -, -, -⟩ := own_form h5.own
            have hlen : (T ++ [(nw2 : Int)]).length = T.length + 1 := by simp
            refine ⟨j + 1, nw2, T ++ [(nw2 : Int)], A', ca', by omega, by omega, by go_num, rfl, by omega, by omega, by rw [hv', hlen], ?_, ⟨S, G, ?_, HG.out, ?_, ?_⟩, ?_, ?_⟩
            · rw [hlen, ← hv', List.map_append]; exact h5.own
            · exact BU5.out.frm h5.frm (fun k _ hk hs => HA.out k hk hs)
            · intro k hk
              have := HS.out k hk
              have := h5.frm.size
              omega
            · intro k hk hs
              rw [hlen, ← hv'] at hk
              rcases h5.at_ with h | h
              · exact HA.out k (h ▸ hk) hs
              · rw [h] at hk
                cases hk
                have := (HS.out _ hs).2
                omega
            · intro t ht
              rcases List.mem_append.1 ht with h | h
              · exact LT.out t h
              · simp at h; omega
            · exact BE5.out.trans (h5.frm.below BS.out (fun k hk => (OC5.out.lt k hk).1))
          by_cases hd0 : d = 0
          · subst hd0
            go_wp2_with (at_builtin; refine wpList_app rfl (.tmp 85) (.tmp 87) 32 rfl w.heap.size 3 info3 Try.underlying32 rfl (by decide) (.slice A T.length ca) T.length (T.map (Value.int .i64)) rfl OC5.out (w4.heap.size + 1) (some ⟨w4.heap.size, 0, none⟩) 1 1 [.int .i64 nw2] rfl rfl C5.out (fun h => by cases h) (by simp [Value.oneCell']) (by omega) (by unfold maxLen; omega) BS.out ?_; intro v' w5 h'; have A5 := Troupe.hid h'; clear h')
            go_roundw
            case rel => exact ROUND.out v' w5 A5.out
            case measure => simp [intOf]; omega
          · have hd1 : 0 < (d : Int) := by omega
            go_wp2_with (at_builtin; refine wpList_app rfl (.tmp 85) (.tmp 87) 32 rfl w.heap.size 3 info3 Try.underlying32 rfl (by decide) (.slice A T.length ca) T.length (T.map (Value.int .i64)) rfl OC5.out (w4.heap.size + 1) (some ⟨w4.heap.size, 0, none⟩) 1 1 [.int .i64 nw2] rfl rfl C5.out (fun h => by cases h) (by simp [Value.oneCell']) (by omega) (by unfold maxLen; omega) BS.out ?_; intro v' w5 h'; have A5 := Troupe.hid h'; clear h')
            go_roundw
            case rel => exact ROUND.out v' w5 A5.out
            case measure => simp [intOf]; omega
        · rw [if_neg hs] at hG
          have e := decide_eq_false hs
          rw [e]
          obtain ⟨x, hx, hxn⟩ : ∃ x : Int, (L : Int) - (spent T nw2 W : Int) - 1 = x ∧ x < 0 := ⟨_, rfl, by omega⟩
          have hw2 : IntKind.i64.wrap ((L : Int) - (spent T nw2 W : Int) - 1) = x := by rw [IntWalk.i64_in _ (by omega)]; exact hx
          have hx2 : ¬ 0 < x := by omega
          have hx3 : ¬ 0 ≤ x := by omega
          have hlv : leftOf L (G 3) (clamp nw2 0 1099511627776) W = 0 := by
            rw [clampid (by omega), hG, left_val]; omega
          have LE : Hid (Calls Try.prog 13 #[.pointer (some ⟨p, 0, none⟩), .int .i64 3, .int .i64 nw2] w3 fun e w' => e = .returned (.int .i64 0) ∧ Below w3.heap.size w3 w') := by
            have := left_any 3 nw2 w3 hbud (by rw [hG]; omega)
            rw [hlv] at this
            exact this
          have BU := Troupe.hid hbud
          have HG := Troupe.hid hG
          have HS := Troupe.hid hS
          have HA := Troupe.hid hA
          clear hbud hG hS hA hlv hx
          go_wp2_with fail
          refine LE.out.mono ?_
          rintro e4 w4 ⟨rfl, hb4⟩
          have ROUND : Hid (WR w w4 p m L W nw2 T A ca) := by
            have F := Frm.of_below hb4
            have := hb4.size
            exact ⟨own_frm OWN.out F (fun k hk h => by obtain ⟨cs, hbk⟩ := own_at OWN.out hk; have := hbk.lt; omega), ⟨S, G, BU.out.below hb4, HG.out, fun k hk => by have := HS.out k hk; omega, HA.out⟩, LT.out, BE.out.trans (hb4.mono BE.out.size)⟩
          clear hb4
          go_wp2_with fail
          go_roundw
          case rel => exact ⟨j + 1, nw2, T, A, ca, by omega, by omega, by go_num, rfl, by omega, by omega, rfl, ROUND.out⟩
          case measure => simp [intOf]; omega
    · obtain ⟨S, G, hbud, hG, hS, hA⟩ := R.out.bud
      have hlv : leftOf L (G 3) (clamp ((nw : Int) + (W : Int)) 0 1099511627776) W = L := by
        have e : (nw : Int) + (W : Int) = ((nw + W : Nat) : Int) := by omega
        rw [e, clampid (by omega), hG, left_val, spent_zero _ _ _ (fun t ht => by have := R.out.le t ht; omega)]
        rfl
      have LE : Hid (Calls Try.prog 13 #[.pointer (some ⟨p, 0, none⟩), .int .i64 3, .int .i64 ((nw : Int) + (W : Int))] wr fun e w' => e = .returned (.int .i64 L) ∧ Below wr.heap.size wr w') := by
        have := left_any 3 ((nw : Int) + (W : Int)) wr hbud (by rw [hG]; omega)
        rw [hlv] at this
        exact this
      have hwr : IntKind.i64.wrap ((nw : Int) + (W : Int)) = (nw : Int) + (W : Int) := IntWalk.i64_in _ (by omega)
      clear hbud hG hS hA hlv
      by_cases h1 : j < n
      · have h2 : ¬ j < 200 := fun h => hlt ⟨h1, h⟩
        clear hlt
        go_wp2_with fail
        refine LE.out.mono ?_
        rintro e4 w4 ⟨rfl, hb4⟩
        have BE4 := Troupe.hid (R.out.be.trans (hb4.mono R.out.be.size))
        clear hb4
        go_wp2_with fail
        go_ret
        exact ⟨rfl, BE4.out⟩
      · clear hlt
        go_wp2_with fail
        refine LE.out.mono ?_
        rintro e4 w4 ⟨rfl, hb4⟩
        have BE4 := Troupe.hid (R.out.be.trans (hb4.mono R.out.be.size))
        clear hb4
        go_wp2_with fail
        go_ret
        exact ⟨rfl, BE4.out⟩
end Go.Proofs.Ytodkennpgfmenaa
