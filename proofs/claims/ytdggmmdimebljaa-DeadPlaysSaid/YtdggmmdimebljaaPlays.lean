/- DeadPlays: the walk. -/
import Derived.Test.YtdggmmdimebljaaPlain
import Derived.Test.YtdggmmdimebljaaArgs
import Derived.Deep.CutRange
import Derived.Deep.CutBlock
namespace Go.Proofs.Ytdggmmdimebljaa
open Go.RowKit Go.Maps Go.Troupe

theorem quiet_left {P : Program} {f : FuncId} {args : Array Value} {w : World} {n : Nat} {v : Value} (h : Calls P f args (w.drewN n) fun e w' => e = .returned v ∧ w.drewN n = w') :
    Calls P f args (w.drewN n) fun e w'' => e = .returned v ∧ ∃ m, w'' = w.drewN m := h.mono fun _ _ ⟨he, hw⟩ => ⟨he, n, hw.symm⟩
theorem Holds.drewN {w : World} {p m r N : Nat} {l : List Let} (h : Holds w p m r N l) (n : Nat) : Holds (w.drewN n) p m r N l := h.heap ((Frm.refl _ _).drewN n)

/-- Behind letters: the sink holds l2; the row of the law's own holds l. -/
structure At (w0 : World) (p m r N : Nat) (l2 l : List Let) (A : Option Addr) (c : Nat) (w' : World) : Prop where
  sink : Holds w' p m r N l2
  below : Below w0.heap.size w0 w'
  own : w'.ownsRow w0.heap.size 29 3 (.slice A l.length c) l.length (flat l)
  apart : ∀ g, (Value.slice A l.length c).ownBlock = some g → g ≠ p ∧ g ≠ m ∧ g ≠ r
theorem At.heap {w0 : World} {p m r N : Nat} {l2 l : List Let} {A : Option Addr} {c : Nat} {w w' : World} (h : At w0 p m r N l2 l A c w) (hf : Frm (fun _ => False) w w') : At w0 p m r N l2 l A c w' :=
  ⟨h.sink.heap hf, h.below.trans (hf.below h.below.size (by simp)), own_frm h.own hf (by simp), h.apart⟩
theorem At.later {w0 : World} {p m r N : Nat} {l2 l : List Let} {A : Option Addr} {c : Nat} {w w' : World} (h : At w0 p m r N l2 l A c w) (hf : Below w.heap.size w w') : At w0 p m r N l2 l A c w' :=
  ⟨h.sink.frm (Frm.of_below hf) (by have := h.sink.lt; omega) (by have := h.sink.lt; omega) (by have := h.sink.lt; omega), h.below.trans (hf.mono h.below.size),
    own_frm h.own (Frm.of_below hf) (fun k hk => by have := h.own.lt k hk; omega), h.apart⟩
theorem At.cells {w0 : World} {p m r N : Nat} {l2 l : List Let} {A : Option Addr} {c : Nat} {w : World} (h : At w0 p m r N l2 l A c w) : Cells w w.heap.size A (flat l) ∧ l.length ≤ c := by
  obtain ⟨A', c', e, h1, _, h2, _⟩ := own_form h.own
  cases e
  exact ⟨h2, h1⟩

set_option maxRecDepth 100000 in
set_option maxHeartbeats 1600000 in
theorem plays_walk (k : Int) (A : Option Addr) (n cap : Nat) (A2 : Option Addr) (n2 cap2 : Nat) (L : List Let) (K : List Int) (w0 : World) (hL : L.length = n) (hK : K.length = n2) (hc : Cells w0 w0.heap.size A (flat L)) (hc2 : Cells w0 w0.heap.size A2 (ints K)) :
    Calls Try.prog 3 #[.int .i64 k, .slice A n cap, .slice A2 n2 cap2] w0 fun e w' => e = .returned (.bool true) ∧ Below w0.heap.size w0 w' := by
  have HC := Troupe.hid hc
  have HC2 := Troupe.hid hc2
  clear hc hc2
  go_enter Try.func3, Try.ntmps3
  go_wp2_with fail
  refine (alive_any w0).mono ?_
  rintro e w1 ⟨rfl, hb1⟩
  have B1 := Troupe.hid hb1
  clear hb1
  go_wp2_with fail
  refine (new_holds k w1).mono ?_
  rintro e w2 ⟨p, m, r, rfl, hp, hm, hr, hh, hb2⟩
  have A2' : Hid (At w0 p m r (keptN k) (puts L 0) (puts L 0) none 0 w2) := ⟨hh, B1.out.trans (hb2.mono B1.out.size), World.ownsRow_nil _ _ _ _, fun g hg => by cases hg⟩
  have P2 := Troupe.hid (⟨Nat.le_trans B1.out.size hp, Nat.le_trans B1.out.size hm, Nat.le_trans B1.out.size hr⟩ : w0.heap.size ≤ p ∧ w0.heap.size ≤ m ∧ w0.heap.size ≤ r)
  clear hb2 hh hp hm hr
  go_upto_block 0 with (fail)
  go_cut [8] from 18 to 106 (fun v8 w' => ∃ (j : Nat) (A8 : Option Addr) (c8 : Nat), j ≤ 1000 ∧ v8 = .slice A8 (puts L j).length c8 ∧ At w0 p m r (keptN k) (puts L j) (puts L j) A8 c8 w')
  case first =>
    go_wp2_with fail
    go_loopw [8, 9] (fun v8 i wr => ∃ (j : Nat) (A8 : Option Addr) (c8 : Nat), j ≤ n ∧ j ≤ 1000 ∧ i = .int .i64 j ∧ v8 = .slice A8 (puts L j).length c8 ∧ At w0 p m r (keptN k) (puts L j) (puts L j) A8 c8 wr) (fun _ i _ => n - (intOf i).toNat)
    case atStart => exact ⟨0, none, 0, Nat.zero_le _, Nat.zero_le _, rfl, rfl, A2'.out⟩
    case round =>
      obtain ⟨j, A8, c8, hj, hj2, rfl, rfl, hat⟩ := hrel
      have hpl := puts_le L j
      have AT := Troupe.hid hat
      clear hat
      by_cases hlt : j < n ∧ j < 1000
      · obtain ⟨hlt, h2⟩ := hlt
        obtain ⟨x, hx⟩ : ∃ x, L[j]? = some x := ⟨_, List.getElem?_eq_getElem (by omega)⟩
        obtain ⟨b, off, rfl, hbb, _⟩ := HC.out.at_ (flat_ne hx)
        obtain ⟨b1, off1, e1, _, h1⟩ := (HC.out.below AT.out.below).at_ (flat_ne hx)
        cases e1
        obtain ⟨c0, c1, c2⟩ := let_at h1 hx
        have X := Troupe.hid hx
        clear h1 hx
        go_upto_region 11 with (fail)
        obtain ⟨w3, hw3⟩ : ∃ w3, w3 = wr.alloc (.cells #[.int .u64 x.id, .int .i64 x.to_, .int .i64 x.why] 29) := ⟨_, rfl⟩
        rw [← hw3]
        obtain ⟨xb, hxb⟩ : ∃ xb, xb = wr.heap.size := ⟨_, rfl⟩
        rw [← hxb]
        have D3 : Hid (Blk w3 xb 29 [.int .u64 x.id, .int .i64 x.to_, .int .i64 x.why]) := by rw [hw3, hxb]; exact Blk.new wr 29 _
        have AT3 : Hid (At w0 p m r (keptN k) (puts L j) (puts L j) A8 c8 w3) := by rw [hw3]; exact AT.out.later ((Below.refl _ _).alloc (Nat.le_refl _) _)
        have PX : Hid (p < xb ∧ m < xb ∧ r < xb) := by rw [hxb]; exact AT.out.sink.lt
        have XB : Hid (w0.heap.size ≤ xb) := by rw [hxb]; exact AT.out.below.size
        clear hw3 hxb AT c0 c1 c2
        go_cut [11] from 18 to 106 (fun e11 w' => ∃ (l2 : List Let) (ev : Int), e11 = .int .i64 ev ∧ ((rightB x.why = true ∧ ev = 0 ∧ l2 = puts L j ++ [x]) ∨ (rightB x.why = false ∧ ev = 1 ∧ l2 = puts L j)) ∧ At w0 p m r (keptN k) l2 (puts L j) A8 c8 w' ∧ Blk w' xb 29 [.int .u64 x.id, .int .i64 x.to_, .int .i64 x.why])
        case first =>
          have cd := D3.out.cell
          go_wp2_with fail
          by_cases hr : rightB x.why = true
          · refine (put_holds x w3 AT3.out.sink hr (by omega)).mono ?_
            rintro e w4 ⟨rfl, hh4, hf4⟩
            have A4 : Hid (At w0 p m r (keptN k) (puts L j ++ [x]) (puts L j) A8 c8 w4) :=
              ⟨hh4, AT3.out.below.trans (hf4.below AT3.out.below.size (by have := P2.out; intro k hk; omega)), own_frm AT3.out.own hf4 (fun g hg hS => by have := AT3.out.apart g hg; omega), AT3.out.apart⟩
            have D4 := Troupe.hid (D3.out.frm hf4 (by have := PX.out; omega))
            clear hh4 hf4 cd
            go_wp2_with fail
            go_meet
            case rel => exact ⟨_, 0, rfl, .inl ⟨hr, rfl, rfl⟩, A4.out, D4.out⟩
          · have hr' : rightB x.why = false := by simpa using hr
            refine (put_wrong (p := p) x w3 hr').mono ?_
            rintro e w4 ⟨rfl, rfl⟩
            clear hr cd
            go_wp2_with fail
            go_meet
            case rel => exact ⟨_, 1, rfl, .inr ⟨hr', rfl, rfl⟩, AT3.out, D3.out⟩
        case rest =>
          obtain ⟨w4, rfl⟩ : ∃ w4 : World, w4 = wc := ⟨_, rfl⟩
          obtain ⟨l2, ev, rfl, hev, hat4, hd4⟩ := hcut
          have A4 := Troupe.hid hat4
          have D4 := Troupe.hid hd4
          have EV := Troupe.hid hev
          clear hat4 hd4 hev
          go_step
          go_step
          go_cut [8] from 18 to 106 (fun v8 w' => ∃ (A9 : Option Addr) (c9 : Nat), v8 = .slice A9 (puts L (j + 1)).length c9 ∧ At w0 p m r (keptN k) (puts L (j + 1)) (puts L (j + 1)) A9 c9 w' ∧ (puts L (j + 1)).length ≤ j + 1)
          case first =>
            have cd := D4.out.cell
            rcases EV.out with ⟨hr, rfl, hl2⟩ | ⟨hr, rfl, hl2⟩
            · have PY := Troupe.hid (puts_yes X.out hr)
              have RX := right_any x.why
              rw [hr] at RX
              have RX := Troupe.hid RX
              have HL := Troupe.hid hl2
              clear hl2 hr
              have hc1 : Cells (w4.alloc (.cells #[.int .u64 x.id, .int .i64 x.to_, .int .i64 x.why] 29)) (w4.heap.size + 1) (some ⟨w4.heap.size, 0, none⟩) (lv x) := Cells.blk (n := 3) (Blk.new w4 29 (lv x)) (by omega)
              have C1 := Troupe.hid hc1
              have hz4 := A4.out.below.size
              clear hc1
              go_wp2_with (first
                | (go_at_call 10; refine (RX.out _).mono ?_; rintro e w5 ⟨rfl, rfl⟩)
                | (at_builtin; refine wpList_app rfl (.tmp 48) (.tmp 50) 22 rfl w0.heap.size 29 info29 Try.underlying22 rfl (by decide) (.slice A8 (puts L j).length c8) (puts L j).length (flat (puts L j)) rfl (A4.out.own.alloc _) (w4.heap.size + 1) _ 1 1 (lv x) rfl rfl C1.out (fun h => by cases h) (by simp [lv, Value.oneCell']) (by omega) (by unfold maxLen; omega) (by simp; omega) ?_; intro v6 w6 h6; have H6 := Troupe.hid h6; clear h6))
              go_meet
              case rel =>
                have h := A4.out
                rw [HL.out] at h
                obtain ⟨A9, c9, e9, _⟩ := own_form H6.out.own
                have hlen : (puts L (j + 1)).length = (puts L j).length + 1 := by rw [PY.out]; simp
                have hf6 := ((Frm.refl (fun _ => False) w4).alloc (.cells #[.int .u64 x.id, .int .i64 x.to_, .int .i64 x.why] 29)).and_then H6.out.frm
                have hlt := h.sink.lt
                rw [hlen]
                refine ⟨A9, c9, e9, ?_, by omega⟩
                rw [PY.out]
                subst e9
                refine ⟨h.sink.frm hf6 (fun hS => ?_) (fun hS => ?_) (fun hS => ?_), h.below.trans (hf6.below h.below.size (fun g hS => ?_)), ?_, ?_⟩
                · have := h.apart _ (by simpa using hS); omega
                · have := h.apart _ (by simpa using hS); omega
                · have := h.apart _ (by simpa using hS); omega
                · exact (h.own.lt g (by simpa using hS)).1
                · have := H6.out.own
                  simpa [flat, lv] using this
                · intro g hg
                  rcases H6.out.at_ with e | e
                  · exact h.apart g (by rw [← e]; simpa using hg)
                  · have : g = w4.heap.size + 1 := by
                      have h1 : some g = some ((w4.alloc (.cells #[.int .u64 x.id, .int .i64 x.to_, .int .i64 x.why] 29)).heap.size) := by rw [← e]; simpa using hg.symm
                      simpa using h1
                    omega
            · have PY := Troupe.hid (puts_no X.out hr)
              have RX := right_any x.why
              rw [hr] at RX
              have RX := Troupe.hid RX
              have HL := Troupe.hid hl2
              clear hl2 hr
              go_wp2_with (go_at_call 10; refine (RX.out _).mono ?_; rintro e w5 ⟨rfl, rfl⟩)
              go_meet
              case rel =>
                have h := A4.out
                rw [HL.out] at h
                rw [PY.out]
                exact ⟨A8, c8, rfl, h, by omega⟩
          case rest =>
            obtain ⟨w5, rfl⟩ : ∃ w5 : World, w5 = wc := ⟨_, rfl⟩
            obtain ⟨A9, c9, rfl, hat5, hpl5⟩ := hcut
            have A5 := Troupe.hid hat5
            clear hat5
            go_step
            go_step
            go_cut [] from 18 to 106 (fun w' => Frm (fun _ => False) w5 w')
            case first =>
              by_cases hj3 : j < n2
              · obtain ⟨y, hy⟩ : ∃ y, K[j]? = some y := ⟨_, List.getElem?_eq_getElem (by omega)⟩
                have hne : ints K ≠ [] := by intro e; have := congrArg List.length e; simp [ints] at this; subst this; simp at hy
                obtain ⟨b2, off2, rfl, _, h2'⟩ := (HC2.out.below A5.out.below).at_ hne
                have cy : w5.cell? ⟨b2, off2 + j, none⟩ = some (.int .i64 y) := h2' j _ (by simp [ints, hy])
                obtain ⟨hcell5, hle5⟩ := A5.out.cells
                obtain ⟨c, hc⟩ : ∃ c, c = cntL (puts L (j + 1)) y := ⟨_, rfl⟩
                have K1 : Hid (∀ q, Calls Try.prog 11 #[.pointer (some ⟨p, 0, none⟩), .int .i64 y] (w5.drewN q) fun e w'' => e = .returned (.int .i64 c) ∧ ∃ m, w'' = w5.drewN m) := fun q => quiet_left (by rw [hc]; exact count_holds y _ (A5.out.sink.drewN q))
                have K2 : Hid (∀ q, Calls Try.prog 12 #[.slice A9 (puts L (j + 1)).length c9, .int .i64 y] (w5.drewN q) fun e w'' => e = .returned (.int .i64 c) ∧ ∃ m, w'' = w5.drewN m) := fun q => quiet_left (by rw [hc]; exact refCount_any A9 _ c9 _ _ y _ rfl (by omega) hcell5)
                have K3 : Hid (∀ q, Calls Try.prog 10 #[.int .i64 y] (w5.drewN q) fun e w'' => e = .returned (.bool (rightB y)) ∧ ∃ m, w'' = w5.drewN m) := fun q => quiet_left (right_any y _)
                clear h2' hne hcell5 hy
                by_cases hr : rightB y = true
                · rw [hr] at K3
                  clear hr hc
                  go_wp2_with fail
                  go_quiet ((first | (go_at_call 11; exact K1.out _) | (go_at_call 12; exact K2.out _) | (go_at_call 10; exact K3.out _)))
                  go_wp2_with fail
                  go_meet
                  case rel => exact (Frm.refl _ _).drewN _
                · have hr' : rightB y = false := by simpa using hr
                  rw [hr'] at K3
                  have h0 : c = 0 := by rw [hc]; exact cnt_wrong hr'
                  subst h0
                  clear hr hr' hc
                  go_wp2_with fail
                  go_quiet ((first | (go_at_call 11; exact K1.out _) | (go_at_call 12; exact K2.out _) | (go_at_call 10; exact K3.out _)))
                  go_wp2_with fail
                  go_meet
                  case rel => exact (Frm.refl _ _).drewN _
              · have hj4 : decide ((j : Int) < n2) = false := by simpa using hj3
                go_wp2_with fail
                go_quiet (fail)
                go_wp2_with fail
                go_meet
                case rel => exact (Frm.refl _ _).drewN _
            case rest =>
              obtain ⟨w6, rfl⟩ : ∃ w6 : World, w6 = wc := ⟨_, rfl⟩
              have A6 := Troupe.hid (A5.out.heap hcut)
              clear hcut
              by_cases h3 : j % 3 = 0
              · have h3' : ((j : Int) % 3 == 0) = true := by simp; omega
                clear h3
                go_wp2_with fail
                refine (recent_holds w6 A6.out.sink).mono ?_
                rintro e w7 ⟨v, rfl, hown7, hb7⟩
                obtain ⟨A7', c7', rfl, hcl7, _, hc7, _, _⟩ := own_form hown7
                have A7 := Troupe.hid (A6.out.later hb7)
                obtain ⟨hcells7, hle7⟩ := A7.out.cells
                have C7 := Troupe.hid hc7
                have B7 := Troupe.hid hb7
                have HCL := Troupe.hid hcells7
                clear hown7 hc7 hb7 hcells7
                go_wp2_with fail
                refine (refRecent_any A9 _ c9 w7.heap.size (puts L (j + 1)) k w7 rfl (by omega) hle7 HCL.out).mono ?_
                rintro e w8 ⟨rfl, A8', c8', rfl, _, hc8⟩
                have C8 := Troupe.hid hc8
                clear hc8
                go_wp2_with fail
                refine (refSame_any A7' A8' _ c7' c8' w7.heap.size _ w7 (by rw [List.length_drop]; omega) (by omega) C7.out C8.out).mono ?_
                rintro e w9 ⟨rfl, hf9, _⟩
                have BS := Troupe.hid (B7.out.trans (hf9.below B7.out.size (by simp)))
                clear hf9
                go_wp2_with fail
                go_roundw
                case rel => exact ⟨j + 1, A9, c9, by omega, by omega, by go_num, rfl, A6.out.later BS.out⟩
                case measure => simp [intOf]; omega
              · have h3' : ((j : Int) % 3 == 0) = false := by simp; omega
                clear h3
                go_wp2_with fail
                go_roundw
                case rel => exact ⟨j + 1, A9, c9, by omega, by omega, by go_num, rfl, A6.out⟩
                case measure => simp [intOf]; omega
      · have hex : ¬ (j : Int) < n ∨ ¬ (j : Int) < 1000 := by omega
        go_wp2_with fail
        all_goals
          go_meet
          case rel => exact ⟨j, A8, c8, hj2, rfl, AT.out⟩
  case rest =>
    obtain ⟨w6, rfl⟩ : ∃ w6 : World, w6 = wc := ⟨_, rfl⟩
    obtain ⟨j, A9, c9, hj2, rfl, hat⟩ := hcut
    have hpl5 := puts_le L j
    have A6 := Troupe.hid hat
    clear hat
    go_wp2_with (go_at_call 16; refine (total_holds _ A6.out.sink).mono ?_; rintro e w5 ⟨rfl, rfl⟩)
    refine (recent_holds w6 A6.out.sink).mono ?_
    rintro e w7 ⟨v, rfl, hown7, hb7⟩
    obtain ⟨A7', c7', rfl, hcl7, _, hc7, _, _⟩ := own_form hown7
    have A7 := Troupe.hid (A6.out.later hb7)
    obtain ⟨hcells7, hle7⟩ := A7.out.cells
    have C7 := Troupe.hid hc7
    have B7 := Troupe.hid hb7
    have HCL := Troupe.hid hcells7
    clear hown7 hc7 hb7 hcells7
    go_wp2_with fail
    refine (refRecent_any A9 _ c9 w7.heap.size (puts L j) k w7 rfl (by omega) hle7 HCL.out).mono ?_
    rintro e w8 ⟨rfl, A8', c8', rfl, _, hc8⟩
    have C8 := Troupe.hid hc8
    clear hc8
    go_wp2_with fail
    refine (refSame_any A7' A8' _ c7' c8' w7.heap.size _ w7 (by rw [List.length_drop]; omega) (by omega) C7.out C8.out).mono ?_
    rintro e w9 ⟨rfl, hf9, _⟩
    have BS := Troupe.hid (B7.out.trans (hf9.below B7.out.size (by simp)))
    clear hf9
    go_wp2_with fail
    go_ret
    exact ⟨rfl, A6.out.below.trans (BS.out.mono A6.out.below.size)⟩
end Go.Proofs.Ytdggmmdimebljaa
