-- PRINTED BY print.sh 35421559b90ae4d0a3588c463048766b98c2df88dd9212a6774a882060cdf62d: not written by this session
import Derived.Test.YtgjphmcofmkmfaaPListdecodeParamsx0
import Derived.Test.YtgjphmcofmkmfaaPListdecodeParamsx1
import Derived.Test.YtgjphmcofmkmfaaPListdecodeParamsx2
namespace Go.Proofs.Ytgjphmcofmkmfaa.PListdecodeParams
open Go.RowKit Go.Proofs.YtgjphmcofmkmfaaW.PrintWords Go.Proofs.YtgjphmcofmkmfaaW.PrintLast Go.Proofs.YtgjphmcofmkmfaaW.PrintMore
attribute [local go_sem] max2_int min2_int max_two min_two max_three min_three max_four min_four   -- for this text's walks alone
set_option linter.unusedVariables false
set_option linter.unusedSimpArgs false

attribute [local go_sem high] eqA24
/-! ### codewrightref40_Terms: function 65 -/
def codewrightref40_Terms.l0 : Nat → Int → Int → Int → Int → Int → Option (Int)
  | 0, _, _, _, _, _ => none
  | k + 1, x0, x1, x2, x7, x8 => if x8 ≤ x1 then (if (wrap64 (x2 - (wrap64 (x0 * x8)))) ≥ 0 then (codewrightref40_Terms.l0 k x0 x1 x2 (wrap64 (x7 + (wrap64 ((wrap64 (x2 - (wrap64 (x0 * x8)))) + 1)))) (wrap64 (x8 + 1))) else (codewrightref40_Terms.l0 k x0 x1 x2 x7 (wrap64 (x8 + 1)))) else (some x7)
def codewrightref40_Terms.f (k : Nat) (a0 : Int) (a1 : Int) (a2 : Int) : Option (Int) := codewrightref40_Terms.l0 k a0 a1 a2 0 0
theorem codewrightref40_Terms.mono_l : ∀ k, (∀ y0 y1 y2 y3 y4, LeO (codewrightref40_Terms.l0 k y0 y1 y2 y3 y4) (codewrightref40_Terms.l0 (k + 1) y0 y1 y2 y3 y4))
  | 0 => fun _ _ _ _ _ r h => by simp [codewrightref40_Terms.l0] at h
  | k + 1 => by
    have ih0 := codewrightref40_Terms.mono_l k
    · intro y0 y1 y2 y3 y4
      unfold codewrightref40_Terms.l0
      repeat' first
      | (with_reducible exact ih0 _ _ _ _ _)
      | (with_reducible exact LeO.refl _)
      | (with_reducible exact LeO.none _)
      | (with_reducible refine LeO.ite ?_ ?_)
      | (with_reducible refine LeO.bind ?_ (fun _ => ?_))
      | exact ih0 _ _ _ _ _
      | exact LeO.none _
      | refine LeO.ite ?_ ?_
      | refine LeO.bind ?_ (fun _ => ?_)
theorem codewrightref40_Terms.mono : ∀ a0 a1 a2 k, LeO (codewrightref40_Terms.f k a0 a1 a2) (codewrightref40_Terms.f (k + 1) a0 a1 a2) := by
  intro a0 a1 a2 k
  have ih0 := codewrightref40_Terms.mono_l k
  unfold codewrightref40_Terms.f
  repeat' first
      | (with_reducible exact ih0 _ _ _ _ _)
      | (with_reducible exact LeO.refl _)
      | (with_reducible exact LeO.none _)
      | (with_reducible refine LeO.ite ?_ ?_)
      | (with_reducible refine LeO.bind ?_ (fun _ => ?_))
      | exact ih0 _ _ _ _ _
      | exact LeO.none _
      | refine LeO.ite ?_ ?_
      | refine LeO.bind ?_ (fun _ => ?_)
set_option maxHeartbeats 8000000 in
set_option maxRecDepth 100000 in
theorem codewrightref40_Terms.calls (k : Nat) (a0 : Int) (a1 : Int) (a2 : Int) (r : Int) (w : World) (h : codewrightref40_Terms.f k a0 a1 a2 = some r) :
    Calls Try.prog 65 #[.int .i64 a0, .int .i64 a1, .int .i64 a2] w fun e w' => e = .returned (.int .i64 r) ∧ Drawn0 w w' := by
  have H : (codewrightref40_Terms.l0 k a0 a1 a2 0 0) = some r := h
  clear h
  have H' := Aside0.mk H
  clear H
  go_enter Try.func65, Try.ntmps65
  go_wp2
  go_loopg [7, 8] k (fun kq v7 v8 w' => ∃ (x7_1 : Int) (x8_1 : Int), v7 = .int .i64 x7_1 ∧ v8 = .int .i64 x8_1 ∧ Aside0 (codewrightref40_Terms.l0 kq a0 a1 a2 x7_1 x8_1 = some r) ∧ Aside0 (kq ≤ k) ∧ Drawn0 w w')
  case atStart => exact ⟨(0), (0), (by first | rfl | (simp; done) | (simp [*]; done)), (by first | rfl | (simp; done) | (simp [*]; done)), H', ⟨Nat.le_refl _⟩, by repeat (first | exact Drawn0.refl _ | apply Drawn0.step)⟩
  case round =>
    clear H'
    try clear p2
    obtain ⟨x7_1, x8_1, rfl, rfl, HA, HK1, ⟨m1, rfl⟩⟩ := hrel
    cases gk with
    | zero => exact absurd HA.out (by simp [codewrightref40_Terms.l0])
    | succ k1 =>
      have H := HA.out
      clear HA
      simp only [codewrightref40_Terms.l0] at H
      by_cases c4 : x8_1 ≤ a1
      · rw [if_pos c4] at H
        have c4b0 : decide (x8_1 ≤ a1) = true := decide_eq_true c4
        clear c4
        by_cases c5 : (wrap64 (a2 - (wrap64 (a0 * x8_1)))) ≥ 0
        · rw [if_pos c5] at H
          have c5b0 : decide (0 ≤ (wrap64 (a2 - (wrap64 (a0 * x8_1))))) = true := decide_eq_true c5
          clear c5
          have H' := Aside0.mk H
          clear H
          go_wp2
          go_roundg k1
          case measure => have := HK1.out; omega
          case rel => exact ⟨(wrap64 (x7_1 + (wrap64 ((wrap64 (a2 - (wrap64 (a0 * x8_1)))) + 1)))), (wrap64 (x8_1 + 1)), (by first | rfl | (simp; done) | (simp [*]; done)), (by first | rfl | (simp; done) | (simp [*]; done)), H', ⟨by have := HK1.out; omega⟩, by repeat (first | exact Drawn0.refl _ | apply Drawn0.step)⟩
        · rw [if_neg c5] at H
          have c5b0 : decide (0 ≤ (wrap64 (a2 - (wrap64 (a0 * x8_1))))) = false := decide_eq_false c5
          clear c5
          have H' := Aside0.mk H
          clear H
          go_wp2
          go_roundg k1
          case measure => have := HK1.out; omega
          case rel => exact ⟨(x7_1), (wrap64 (x8_1 + 1)), (by first | rfl | (simp; done) | (simp [*]; done)), (by first | rfl | (simp; done) | (simp [*]; done)), H', ⟨by have := HK1.out; omega⟩, by repeat (first | exact Drawn0.refl _ | apply Drawn0.step)⟩
      · rw [if_neg c4] at H
        have c4b0 : decide (x8_1 ≤ a1) = false := decide_eq_false c4
        clear c4
        obtain rfl := Option.some.inj H
        go_wp2
        go_ret
        exact ⟨by first | rfl | (simp; done) | (simp [*]; done), by repeat (first | exact Drawn0.refl _ | apply Drawn0.step)⟩

/-! ### codewrightref41_Params: function 21 -/
mutual
def codewrightref41_Params.j0 : Nat → Int → Int → Int → Bool → Option (Int × Int × Int × Int)
  | 0, _, _, _, _ => none
  | k + 1, x0, x1, x2, x35 => if x35 = true then (some (0, 0, 0, 6)) else ((codewrightref41_Weight.f x1).bind fun t125 => (codewrightref41_Params.l0 k x0 x2 t125 1))
def codewrightref41_Params.l0 : Nat → Int → Int → Int → Int → Option (Int × Int × Int × Int)
  | 0, _, _, _, _ => none
  | k + 1, x0, x2, x8, x9 => if x9 ≤ 16 then (if (wrap64 (Int.tdiv (wrap64 ((wrap64 (x0 * x9)) * (wrap64 (x9 + 1)))) 2)) > 4096 then (some (0, 0, 0, 11)) else (codewrightref41_Params.l1 k x0 x2 x8 x9 (wrap64 (Int.tdiv (wrap64 ((wrap64 (x0 * x9)) * (wrap64 (x9 + 1)))) 2)) 0)) else (some (0, 0, 0, 11))
def codewrightref41_Params.l1 : Nat → Int → Int → Int → Int → Int → Int → Option (Int × Int × Int × Int)
  | 0, _, _, _, _, _, _ => none
  | k + 1, x0, x2, x8, x9, x10, x11 => if x8 = 0 then (none) else ((codewrightref40_Terms.f k x8 (wrap64 (Int.tdiv x11 x8)) x11).bind fun t126 => (if t126 ≤ x10 then (codewrightref41_Params.l1 k x0 x2 x8 x9 x10 (wrap64 (x11 + 1))) else (if (wrap64 (Int.tdiv x11 x8)) ≤ 64 then (if (wrap64 (x9 * (wrap64 (x0 - x2)))) > x11 then (some (x9, x11, wrap64 (Int.tdiv x11 x8), 0)) else (codewrightref41_Params.l0 k x0 x2 x8 (wrap64 (x9 + 1)))) else (codewrightref41_Params.l0 k x0 x2 x8 (wrap64 (x9 + 1))))))
end
def codewrightref41_Params.f (k : Nat) (a0 : Int) (a1 : Int) (a2 : Int) : Option (Int × Int × Int × Int) := if a0 < 1 then (codewrightref41_Params.j0 k a0 a1 a2 true) else (if a0 > 64 then (codewrightref41_Params.j0 k a0 a1 a2 true) else (if a1 < 0 then (codewrightref41_Params.j0 k a0 a1 a2 true) else (if a1 > a0 then (codewrightref41_Params.j0 k a0 a1 a2 true) else (if a2 < 0 then (codewrightref41_Params.j0 k a0 a1 a2 true) else (codewrightref41_Params.j0 k a0 a1 a2 (decide (a2 > a0)))))))
theorem codewrightref41_Params.mono_l : ∀ k, (∀ y0 y1 y2 y3, LeO (codewrightref41_Params.j0 k y0 y1 y2 y3) (codewrightref41_Params.j0 (k + 1) y0 y1 y2 y3)) ∧ (∀ y0 y1 y2 y3, LeO (codewrightref41_Params.l0 k y0 y1 y2 y3) (codewrightref41_Params.l0 (k + 1) y0 y1 y2 y3)) ∧ (∀ y0 y1 y2 y3 y4 y5, LeO (codewrightref41_Params.l1 k y0 y1 y2 y3 y4 y5) (codewrightref41_Params.l1 (k + 1) y0 y1 y2 y3 y4 y5))
  | 0 => ⟨fun _ _ _ _ r h => by simp [codewrightref41_Params.j0] at h, fun _ _ _ _ r h => by simp [codewrightref41_Params.l0] at h, fun _ _ _ _ _ _ r h => by simp [codewrightref41_Params.l1] at h⟩
  | k + 1 => by
    obtain ⟨ih0, ih1, ih2⟩ := codewrightref41_Params.mono_l k
    refine ⟨?_, ?_, ?_⟩
    · intro y0 y1 y2 y3
      unfold codewrightref41_Params.j0
      repeat' first
      | (with_reducible exact ih0 _ _ _ _)
      | (with_reducible exact ih1 _ _ _ _)
      | (with_reducible exact ih2 _ _ _ _ _ _)
      | (with_reducible exact codewrightref40_Terms.mono _ _ _ _)
      | (with_reducible exact LeO.refl _)
      | (with_reducible exact LeO.none _)
      | (with_reducible refine LeO.ite ?_ ?_)
      | (with_reducible refine LeO.bind ?_ (fun _ => ?_))
      | exact ih0 _ _ _ _
      | exact ih1 _ _ _ _
      | exact ih2 _ _ _ _ _ _
      | exact codewrightref40_Terms.mono _ _ _ _
      | exact LeO.none _
      | refine LeO.ite ?_ ?_
      | refine LeO.bind ?_ (fun _ => ?_)
    · intro y0 y1 y2 y3
      unfold codewrightref41_Params.l0
      repeat' first
      | (with_reducible exact ih0 _ _ _ _)
      | (with_reducible exact ih1 _ _ _ _)
      | (with_reducible exact ih2 _ _ _ _ _ _)
      | (with_reducible exact codewrightref40_Terms.mono _ _ _ _)
      | (with_reducible exact LeO.refl _)
      | (with_reducible exact LeO.none _)
      | (with_reducible refine LeO.ite ?_ ?_)
      | (with_reducible refine LeO.bind ?_ (fun _ => ?_))
      | exact ih0 _ _ _ _
      | exact ih1 _ _ _ _
      | exact ih2 _ _ _ _ _ _
      | exact codewrightref40_Terms.mono _ _ _ _
      | exact LeO.none _
      | refine LeO.ite ?_ ?_
      | refine LeO.bind ?_ (fun _ => ?_)
    · intro y0 y1 y2 y3 y4 y5
      unfold codewrightref41_Params.l1
      repeat' first
      | (with_reducible exact ih0 _ _ _ _)
      | (with_reducible exact ih1 _ _ _ _)
      | (with_reducible exact ih2 _ _ _ _ _ _)
      | (with_reducible exact codewrightref40_Terms.mono _ _ _ _)
      | (with_reducible exact LeO.refl _)
      | (with_reducible exact LeO.none _)
      | (with_reducible refine LeO.ite ?_ ?_)
      | (with_reducible refine LeO.bind ?_ (fun _ => ?_))
      | exact ih0 _ _ _ _
      | exact ih1 _ _ _ _
      | exact ih2 _ _ _ _ _ _
      | exact codewrightref40_Terms.mono _ _ _ _
      | exact LeO.none _
      | refine LeO.ite ?_ ?_
      | refine LeO.bind ?_ (fun _ => ?_)
theorem codewrightref41_Params.mono : ∀ a0 a1 a2 k, LeO (codewrightref41_Params.f k a0 a1 a2) (codewrightref41_Params.f (k + 1) a0 a1 a2) := by
  intro a0 a1 a2 k
  obtain ⟨ih0, ih1, ih2⟩ := codewrightref41_Params.mono_l k
  unfold codewrightref41_Params.f
  repeat' first
      | (with_reducible exact ih0 _ _ _ _)
      | (with_reducible exact ih1 _ _ _ _)
      | (with_reducible exact ih2 _ _ _ _ _ _)
      | (with_reducible exact codewrightref40_Terms.mono _ _ _ _)
      | (with_reducible exact LeO.refl _)
      | (with_reducible exact LeO.none _)
      | (with_reducible refine LeO.ite ?_ ?_)
      | (with_reducible refine LeO.bind ?_ (fun _ => ?_))
      | exact ih0 _ _ _ _
      | exact ih1 _ _ _ _
      | exact ih2 _ _ _ _ _ _
      | exact codewrightref40_Terms.mono _ _ _ _
      | exact LeO.none _
      | refine LeO.ite ?_ ?_
      | refine LeO.bind ?_ (fun _ => ?_)
set_option maxHeartbeats 8000000 in
set_option maxRecDepth 100000 in
theorem codewrightref41_Params.calls (k : Nat) (a0 : Int) (a1 : Int) (a2 : Int) (r1 : Int) (r2 : Int) (r3 : Int) (r4 : Int) (w : World) (h : codewrightref41_Params.f k a0 a1 a2 = some (r1, r2, r3, r4)) :
    Calls Try.prog 21 #[.int .i64 a0, .int .i64 a1, .int .i64 a2] w fun e w' => e = .returned (.tuple #[.agg #[.int .i64 r1, .int .i64 r2, .int .i64 r3], .int .i64 r4]) ∧ Below w.heap.size w w' := by
  have hu24 := Try.underlying24
  have HB := Aside0.mk (Below.refl w.heap.size w)
  have H : (if a0 < 1 then (codewrightref41_Params.j0 k a0 a1 a2 true) else (if a0 > 64 then (codewrightref41_Params.j0 k a0 a1 a2 true) else (if a1 < 0 then (codewrightref41_Params.j0 k a0 a1 a2 true) else (if a1 > a0 then (codewrightref41_Params.j0 k a0 a1 a2 true) else (if a2 < 0 then (codewrightref41_Params.j0 k a0 a1 a2 true) else (codewrightref41_Params.j0 k a0 a1 a2 (decide (a2 > a0)))))))) = some (r1, r2, r3, r4) := h
  clear h
  have HC4 := Aside0.mk H
  clear H
  go_enter Try.func21, Try.ntmps21
  go_upto_region 1 with (first | ((with_reducible refine gate_dst (N := 6) rfl ?_); refine box_event ?hg (N := 6) ?hd (cs := #[.int .i64 0, .int .i64 0, .int .i64 0]) (t := 24) ?hr ?_; (case hd => rfl); (case hg => rfl); (case hr => first | (go_simp; done) | (go_simp; rfl)); intro gb124 hg w5 hbox hb; have n0_ := Aside0.mk (below_step (by repeat (first | (with_reducible first | exact HB.out | apply below_alloc | apply pw_below_drewN | apply below_drew1) | exact HB.out)) hb); have n1_ := Aside0.mk (hbox); have n2_ := Aside0.mk ((by rw [hg]; exact (below_size (by repeat (first | (with_reducible first | exact HB.out | apply below_alloc | apply pw_below_drewN | apply below_drew1) | exact HB.out))) : w.heap.size ≤ gb124)); have n3_ := Aside0.mk ((by rw [hg]; exact (below_size (by repeat (first | (with_reducible first | exact HB.out | apply below_alloc | apply pw_below_drewN | apply below_drew1) | exact HB.out))) : w.heap.size ≤ gb124)); clear HB; have HB := n0_; have BK124 := n1_; have GW124 := n2_; have GE124 := n3_; clear n0_ n1_ n2_ n3_; clear hb hbox hg))
  (try simp only [Act.put, List.setIfInBounds_toArray, List.set_cons_zero, List.set_cons_succ])
  go_cut [35] (fun v35 wc => ∃ (kq : Nat) (x35_3 : Bool), v35 = .bool x35_3 ∧ Aside0 (codewrightref41_Params.j0 kq a0 a1 a2 x35_3 = some (r1, r2, r3, r4)) ∧ Aside0 (kq ≤ k) ∧ Aside0 (wc.heap[gb124]? = some (.cells #[.int .i64 0, .int .i64 0, .int .i64 0] 24 (0, 0))) ∧ Aside0 (Below w.heap.size w wc))
  case first =>
    have H := HC4.out
    clear HC4
    by_cases c6 : a0 < 1
    · rw [if_pos c6] at H
      have c6b0 : decide (a0 < 1) = true := decide_eq_true c6
      clear c6
      (first | rw [c6b0] | (simp only [i64_w, i32_w]; rw [c6b0]) | skip)
      have H' := Aside0.mk H
      clear H
      go_wp2
      go_meet
      case rel => exact ⟨_, (true), (by first | rfl | (simp; done) | (simp [*]; done)), H', ⟨by first | omega | exact Nat.le_refl _⟩, ⟨by (with_reducible repeat (first | refine blk_drewN ?_ _ | refine blk_drew ?_ | refine blk_alloc ?_ _)); exact BK124.out⟩, ⟨by repeat (first | (with_reducible first | exact HB.out | apply below_alloc | apply pw_below_drewN | apply below_drew1 | refine below_set ?_ GE124.out) | exact HB.out)⟩⟩
    · rw [if_neg c6] at H
      have c6b0 : decide (a0 < 1) = false := decide_eq_false c6
      clear c6
      (first | rw [c6b0] | (simp only [i64_w, i32_w]; rw [c6b0]) | skip)
      by_cases c7 : a0 > 64
      · rw [if_pos c7] at H
        have c7b0 : decide (64 < a0) = true := decide_eq_true c7
        clear c7
        have H' := Aside0.mk H
        clear H
        go_wp2
        go_meet
        case rel => exact ⟨_, (true), (by first | rfl | (simp; done) | (simp [*]; done)), H', ⟨by first | omega | exact Nat.le_refl _⟩, ⟨by (with_reducible repeat (first | refine blk_drewN ?_ _ | refine blk_drew ?_ | refine blk_alloc ?_ _)); exact BK124.out⟩, ⟨by repeat (first | (with_reducible first | exact HB.out | apply below_alloc | apply pw_below_drewN | apply below_drew1 | refine below_set ?_ GE124.out) | exact HB.out)⟩⟩
      · rw [if_neg c7] at H
        have c7b0 : decide (64 < a0) = false := decide_eq_false c7
        clear c7
        by_cases c8 : a1 < 0
        · rw [if_pos c8] at H
          have c8b0 : decide (a1 < 0) = true := decide_eq_true c8
          clear c8
          have H' := Aside0.mk H
          clear H
          go_wp2
          go_meet
          case rel => exact ⟨_, (true), (by first | rfl | (simp; done) | (simp [*]; done)), H', ⟨by first | omega | exact Nat.le_refl _⟩, ⟨by (with_reducible repeat (first | refine blk_drewN ?_ _ | refine blk_drew ?_ | refine blk_alloc ?_ _)); exact BK124.out⟩, ⟨by repeat (first | (with_reducible first | exact HB.out | apply below_alloc | apply pw_below_drewN | apply below_drew1 | refine below_set ?_ GE124.out) | exact HB.out)⟩⟩
        · rw [if_neg c8] at H
          have c8b0 : decide (a1 < 0) = false := decide_eq_false c8
          clear c8
          by_cases c9 : a1 > a0
          · rw [if_pos c9] at H
            have c9b0 : decide (a0 < a1) = true := decide_eq_true c9
            clear c9
            have H' := Aside0.mk H
            clear H
            go_wp2
            go_meet
            case rel => exact ⟨_, (true), (by first | rfl | (simp; done) | (simp [*]; done)), H', ⟨by first | omega | exact Nat.le_refl _⟩, ⟨by (with_reducible repeat (first | refine blk_drewN ?_ _ | refine blk_drew ?_ | refine blk_alloc ?_ _)); exact BK124.out⟩, ⟨by repeat (first | (with_reducible first | exact HB.out | apply below_alloc | apply pw_below_drewN | apply below_drew1 | refine below_set ?_ GE124.out) | exact HB.out)⟩⟩
          · rw [if_neg c9] at H
            have c9b0 : decide (a0 < a1) = false := decide_eq_false c9
            clear c9
            by_cases c10 : a2 < 0
            · rw [if_pos c10] at H
              have c10b0 : decide (a2 < 0) = true := decide_eq_true c10
              clear c10
              have H' := Aside0.mk H
              clear H
              go_wp2
              go_meet
              case rel => exact ⟨_, (true), (by first | rfl | (simp; done) | (simp [*]; done)), H', ⟨by first | omega | exact Nat.le_refl _⟩, ⟨by (with_reducible repeat (first | refine blk_drewN ?_ _ | refine blk_drew ?_ | refine blk_alloc ?_ _)); exact BK124.out⟩, ⟨by repeat (first | (with_reducible first | exact HB.out | apply below_alloc | apply pw_below_drewN | apply below_drew1 | refine below_set ?_ GE124.out) | exact HB.out)⟩⟩
            · rw [if_neg c10] at H
              have c10b0 : decide (a2 < 0) = false := decide_eq_false c10
              clear c10
              have H' := Aside0.mk H
              clear H
              go_wp2
              go_meet
              case rel => exact ⟨_, (decide (a2 > a0)), (by first | rfl | (simp; done) | (simp [*]; done)), H', ⟨by first | omega | exact Nat.le_refl _⟩, ⟨by (with_reducible repeat (first | refine blk_drewN ?_ _ | refine blk_drew ?_ | refine blk_alloc ?_ _)); exact BK124.out⟩, ⟨by repeat (first | (with_reducible first | exact HB.out | apply below_alloc | apply pw_below_drewN | apply below_drew1 | refine below_set ?_ GE124.out) | exact HB.out)⟩⟩
  case rest =>
    clear HC4
    try clear c1
    try clear c2
    try clear p2
    try clear c6
    try clear c6b0
    try clear c7
    try clear c7b0
    try clear c8
    try clear c8b0
    try clear c9
    try clear c9b0
    try clear c10
    try clear c10b0
    obtain ⟨kq, x35_3, rfl, HA, HJ3, BK124, HB⟩ := hcut
    cases kq with
    | zero => exact absurd HA.out (by simp [codewrightref41_Params.j0])
    | succ kj3 =>
      have H := HA.out
      clear HA
      simp only [codewrightref41_Params.j0] at H
      by_cases c11 : x35_3 = true
      · subst c11
        have H1 : (some (0, 0, 0, 6)) = some (r1, r2, r3, r4) := by rw [if_pos rfl] at H; exact H
        clear H
        have H := H1
        clear H1
        simp only [Option.some.injEq, Prod.mk.injEq] at H
        obtain ⟨rfl, rfl, rfl, rfl⟩ := H
        have hcz12_0 : wc.cell? ⟨gb124, 0, none⟩ = some (.int .i64 0) := (blk_cell BK124.out 0).trans rfl
        have hcz12_1 : wc.cell? ⟨gb124, 1, none⟩ = some (.int .i64 0) := (blk_cell BK124.out 1).trans rfl
        have hcz12_2 : wc.cell? ⟨gb124, 2, none⟩ = some (.int .i64 0) := (blk_cell BK124.out 2).trans rfl
        have hfz12_0 := blk_frozen BK124.out 0
        have hfz12_1 := blk_frozen BK124.out 1
        have hfz12_2 := blk_frozen BK124.out 2
        go_wp2
        refine bodyPost_ret (results_ct rfl _ _ gb124 24 #[.int .i64 0, .int .i64 0, .int .i64 0] (0, 0) _ rfl (by (with_reducible repeat (first | refine blk_drewN ?_ _ | refine blk_drew ?_ | refine blk_alloc ?_ _)); refine blk_put (cs := #[.int .i64 0, .int .i64 0, .int .i64 0]) ?_ 2 _ rfl; (with_reducible repeat (first | refine blk_drewN ?_ _ | refine blk_drew ?_ | refine blk_alloc ?_ _)); refine blk_put (cs := #[.int .i64 0, .int .i64 0, .int .i64 0]) ?_ 1 _ rfl; (with_reducible repeat (first | refine blk_drewN ?_ _ | refine blk_drew ?_ | refine blk_alloc ?_ _)); refine blk_put (cs := #[.int .i64 0, .int .i64 0, .int .i64 0]) ?_ 0 _ rfl; (with_reducible repeat (first | refine blk_drewN ?_ _ | refine blk_drew ?_ | refine blk_alloc ?_ _)); exact BK124.out) Try.underlying24 rfl (by kernel_rfl)) rfl ?_
        exact ⟨by first | rfl | (simp [errW_none, errW_some] <;> rfl) | (simp [*, errW_none, errW_some] <;> rfl), by repeat (first | (with_reducible first | exact HB.out | apply below_alloc | apply pw_below_drewN | apply below_drew1 | refine below_set ?_ GE124.out) | exact HB.out)⟩
      · replace c11 := Bool.eq_false_iff.mpr c11
        subst c11
        have H1 : ((codewrightref41_Weight.f a1).bind fun t125 => (codewrightref41_Params.l0 kj3 a0 a2 t125 1)) = some (r1, r2, r3, r4) := by rw [if_neg (show ¬ (false = true) by decide)] at H; exact H
        clear H
        have H := H1
        clear H1
        replace H := Option.bind_eq_some_iff.mp H
        obtain ⟨t125, A130, H⟩ := H
        replace H : (codewrightref41_Params.l0 kj3 a0 a2 t125 1) = some (r1, r2, r3, r4) := H
        have A13 := Aside0.mk A130
        clear A130
        have H' := Aside0.mk H
        clear H
        go_wp2_with (first | ((with_reducible refine gate_callee (f := 58) rfl ?_); refine goesL_ (some 38) rfl rfl Try.func58 (by kernel_rfl) rfl #[.int .i64 a1] rfl (by (try simp only [List.map_toArray, List.map_cons, List.map_nil]); first | done | rfl | (simp only [List.length_drop, List.length_take]; rfl)) ?_; (with_reducible refine (codewrightref41_Weight.calls a1 t125 _ A13.out).mono ?_); rintro e w14 ⟨rfl, hb⟩; refine ⟨_, rfl, ?_⟩; have n0_ := Aside0.mk (blk_below (g := gb124) (o := .cells #[.int .i64 0, .int .i64 0, .int .i64 0] 24 (0, 0)) (by (with_reducible repeat (first | refine blk_drewN ?_ _ | refine blk_drew ?_ | refine blk_alloc ?_ _)); exact BK124.out) hb); have n1_ := Aside0.mk (below_step (by repeat (first | (with_reducible first | exact HB.out | apply below_alloc | apply pw_below_drewN | apply below_drew1 | refine below_set ?_ GE124.out) | exact HB.out)) hb); clear BK124; clear HB; have BK124 := n0_; have HB := n1_; clear n0_ n1_; (try clear hb); (try clear hb2); (try clear hk); (try clear hi)))
        go_loopg [9] kj3 (fun kq v9 w' => ∃ (x9_2 : Int) (x125000_2 : Int) (x125001_2 : Int) (x125002_2 : Int), v9 = .int .i64 x9_2 ∧ Aside0 (codewrightref41_Params.l0 kq a0 a2 t125 x9_2 = some (r1, r2, r3, r4)) ∧ Aside0 (kq ≤ kj3) ∧ Aside0 (w'.heap[gb124]? = some (.cells #[.int .i64 x125000_2, .int .i64 x125001_2, .int .i64 x125002_2] 24 (0, 0))) ∧ Aside0 (Below w.heap.size w w'))
        case atStart => exact ⟨(1), (0), (0), (0), (by first | rfl | (simp; done) | (simp [*]; done)), H', ⟨Nat.le_refl _⟩, ⟨by (with_reducible repeat (first | refine blk_drewN ?_ _ | refine blk_drew ?_ | refine blk_alloc ?_ _)); exact BK124.out⟩, ⟨by repeat (first | (with_reducible first | exact HB.out | apply below_alloc | apply pw_below_drewN | apply below_drew1 | refine below_set ?_ GE124.out) | exact HB.out)⟩⟩
        case round =>
          clear H'
          try clear c1
          try clear c2
          try clear p2
          try clear c5
          try clear c6
          try clear c6b0
          try clear c7
          try clear c7b0
          try clear c8
          try clear c8b0
          try clear c9
          try clear c9b0
          try clear c10
          try clear c10b0
          try clear c11
          try clear hcz12_0
          try clear hcz12_1
          try clear hcz12_2
          try clear hfz12_0
          try clear hfz12_1
          try clear hfz12_2
          try clear p2
          obtain ⟨x9_2, x125000_2, x125001_2, x125002_2, rfl, HA, HK2, BK124, HB⟩ := hrel
          cases gk with
          | zero => exact absurd HA.out (by simp [codewrightref41_Params.l0])
          | succ k2 =>
            have H := HA.out
            clear HA
            simp only [codewrightref41_Params.l0] at H
            by_cases c15 : x9_2 ≤ 16
            · rw [if_pos c15] at H
              have c15b0 : decide (x9_2 ≤ 16) = true := decide_eq_true c15
              clear c15
              by_cases c16 : (wrap64 (Int.tdiv (wrap64 ((wrap64 (a0 * x9_2)) * (wrap64 (x9_2 + 1)))) 2)) > 4096
              · rw [if_pos c16] at H
                have c16b0 : decide (4096 < (wrap64 (Int.tdiv (wrap64 ((wrap64 (a0 * x9_2)) * (wrap64 (x9_2 + 1)))) 2))) = true := decide_eq_true c16
                clear c16
                simp only [Option.some.injEq, Prod.mk.injEq] at H
                obtain ⟨rfl, rfl, rfl, rfl⟩ := H
                have hcz17_0 : wr.cell? ⟨gb124, 0, none⟩ = some (.int .i64 x125000_2) := (blk_cell BK124.out 0).trans rfl
                have hcz17_1 : wr.cell? ⟨gb124, 1, none⟩ = some (.int .i64 x125001_2) := (blk_cell BK124.out 1).trans rfl
                have hcz17_2 : wr.cell? ⟨gb124, 2, none⟩ = some (.int .i64 x125002_2) := (blk_cell BK124.out 2).trans rfl
                have hfz17_0 := blk_frozen BK124.out 0
                have hfz17_1 := blk_frozen BK124.out 1
                have hfz17_2 := blk_frozen BK124.out 2
                go_wp2
                refine bodyPost_ret (results_ct rfl _ _ gb124 24 #[.int .i64 0, .int .i64 0, .int .i64 0] (0, 0) _ rfl (by (with_reducible repeat (first | refine blk_drewN ?_ _ | refine blk_drew ?_ | refine blk_alloc ?_ _)); refine blk_put (cs := #[.int .i64 0, .int .i64 0, .int .i64 x125002_2]) ?_ 2 _ rfl; (with_reducible repeat (first | refine blk_drewN ?_ _ | refine blk_drew ?_ | refine blk_alloc ?_ _)); refine blk_put (cs := #[.int .i64 0, .int .i64 x125001_2, .int .i64 x125002_2]) ?_ 1 _ rfl; (with_reducible repeat (first | refine blk_drewN ?_ _ | refine blk_drew ?_ | refine blk_alloc ?_ _)); refine blk_put (cs := #[.int .i64 x125000_2, .int .i64 x125001_2, .int .i64 x125002_2]) ?_ 0 _ rfl; (with_reducible repeat (first | refine blk_drewN ?_ _ | refine blk_drew ?_ | refine blk_alloc ?_ _)); exact BK124.out) Try.underlying24 rfl (by kernel_rfl)) rfl ?_
                exact ⟨by first | rfl | (simp [errW_none, errW_some] <;> rfl) | (simp [*, errW_none, errW_some] <;> rfl), by repeat (first | (with_reducible first | exact HB.out | apply below_alloc | apply pw_below_drewN | apply below_drew1 | refine below_set ?_ GE124.out) | exact HB.out)⟩
              · rw [if_neg c16] at H
                have c16b0 : decide (4096 < (wrap64 (Int.tdiv (wrap64 ((wrap64 (a0 * x9_2)) * (wrap64 (x9_2 + 1)))) 2))) = false := decide_eq_false c16
                clear c16
                have H' := Aside0.mk H
                clear H
                go_wp2
                go_loopg [11] k2 (fun kq v11 w' => ∃ (x11_3 : Int), v11 = .int .i64 x11_3 ∧ Aside0 (codewrightref41_Params.l1 kq a0 a2 t125 x9_2 (wrap64 (Int.tdiv (wrap64 ((wrap64 (a0 * x9_2)) * (wrap64 (x9_2 + 1)))) 2)) x11_3 = some (r1, r2, r3, r4)) ∧ Aside0 (kq ≤ k2) ∧ Aside0 (w'.heap[gb124]? = some (.cells #[.int .i64 x125000_2, .int .i64 x125001_2, .int .i64 x125002_2] 24 (0, 0))) ∧ Aside0 (Below w.heap.size w w'))
                case atStart => exact ⟨(0), (by first | rfl | (simp; done) | (simp [*]; done)), H', ⟨Nat.le_refl _⟩, ⟨by (with_reducible repeat (first | refine blk_drewN ?_ _ | refine blk_drew ?_ | refine blk_alloc ?_ _)); exact BK124.out⟩, ⟨by repeat (first | (with_reducible first | exact HB.out | apply below_alloc | apply pw_below_drewN | apply below_drew1 | refine below_set ?_ GE124.out) | exact HB.out)⟩⟩
                case round =>
                  clear H'
                  try clear c1
                  try clear c2
                  try clear p2
                  try clear c5
                  try clear c6
                  try clear c6b0
                  try clear p6
                  try clear c7
                  try clear c7b0
                  try clear c8
                  try clear c8b0
                  try clear c9
                  try clear c9b0
                  try clear c10
                  try clear c10b0
                  try clear c11
                  try clear c15
                  try clear c15b0
                  try clear c16
                  try clear c16b0
                  try clear hcz12_0
                  try clear hcz12_1
                  try clear hcz12_2
                  try clear hcz17_0
                  try clear hcz17_1
                  try clear hcz17_2
                  try clear hfz12_0
                  try clear hfz12_1
                  try clear hfz12_2
                  try clear hfz17_0
                  try clear hfz17_1
                  try clear hfz17_2
                  try clear p2
                  obtain ⟨x11_3, rfl, HA, HK3, BK124, HB⟩ := hrel
                  cases gk with
                  | zero => exact absurd HA.out (by simp [codewrightref41_Params.l1])
                  | succ k3 =>
                    have H := HA.out
                    clear HA
                    simp only [codewrightref41_Params.l1] at H
                    by_cases c18 : t125 = 0
                    · rw [if_pos c18] at H
                      exact absurd H (by simp)
                    · rw [if_neg c18] at H
                      have c18b0 : (t125 == 0) = false := beq_eq_false_iff_ne.mpr c18
                      have c18b1 : (t125 != 0) = true := bne_iff_ne.mpr c18
                      replace H := Option.bind_eq_some_iff.mp H
                      obtain ⟨t126, A190, H⟩ := H
                      replace H : (if t126 ≤ (wrap64 (Int.tdiv (wrap64 ((wrap64 (a0 * x9_2)) * (wrap64 (x9_2 + 1)))) 2)) then (codewrightref41_Params.l1 k3 a0 a2 t125 x9_2 (wrap64 (Int.tdiv (wrap64 ((wrap64 (a0 * x9_2)) * (wrap64 (x9_2 + 1)))) 2)) (wrap64 (x11_3 + 1))) else (if (wrap64 (Int.tdiv x11_3 t125)) ≤ 64 then (if (wrap64 (x9_2 * (wrap64 (a0 - a2)))) > x11_3 then (some (x9_2, x11_3, wrap64 (Int.tdiv x11_3 t125), 0)) else (codewrightref41_Params.l0 k3 a0 a2 t125 (wrap64 (x9_2 + 1)))) else (codewrightref41_Params.l0 k3 a0 a2 t125 (wrap64 (x9_2 + 1))))) = some (r1, r2, r3, r4) := H
                      have A19 := Aside0.mk A190
                      clear A190
                      by_cases c20 : t126 ≤ (wrap64 (Int.tdiv (wrap64 ((wrap64 (a0 * x9_2)) * (wrap64 (x9_2 + 1)))) 2))
                      · rw [if_pos c20] at H
                        have c20b0 : decide (t126 ≤ (wrap64 (Int.tdiv (wrap64 ((wrap64 (a0 * x9_2)) * (wrap64 (x9_2 + 1)))) 2))) = true := decide_eq_true c20
                        clear c20
                        have H' := Aside0.mk H
                        clear H
                        go_wp2_with (first | ((with_reducible refine gate_callee (f := 65) rfl ?_); refine goesL_ (some 57) rfl rfl Try.func65 (by kernel_rfl) rfl #[.int .i64 t125, .int .i64 (wrap64 (Int.tdiv x11_3 t125)), .int .i64 x11_3] rfl (by (try simp only [List.map_toArray, List.map_cons, List.map_nil]); first | done | rfl | (simp only [List.length_drop, List.length_take]; rfl)) ?_; (with_reducible refine (codewrightref40_Terms.calls k3 t125 (wrap64 (Int.tdiv x11_3 t125)) x11_3 t126 _ A19.out).mono ?_); rintro e w' ⟨rfl, ⟨nd, rfl⟩⟩; refine ⟨_, rfl, ?_⟩))
                        go_roundg k3
                        case measure => have := HJ3.out; have := HK2.out; have := HK3.out; omega
                        case rel => exact ⟨(wrap64 (x11_3 + 1)), (by first | rfl | (simp; done) | (simp [*]; done)), H', ⟨by have := HJ3.out; have := HK2.out; have := HK3.out; omega⟩, ⟨by (with_reducible repeat (first | refine blk_drewN ?_ _ | refine blk_drew ?_ | refine blk_alloc ?_ _)); exact BK124.out⟩, ⟨by repeat (first | (with_reducible first | exact HB.out | apply below_alloc | apply pw_below_drewN | apply below_drew1 | refine below_set ?_ GE124.out) | exact HB.out)⟩⟩
                      · rw [if_neg c20] at H
                        have c20b0 : decide (t126 ≤ (wrap64 (Int.tdiv (wrap64 ((wrap64 (a0 * x9_2)) * (wrap64 (x9_2 + 1)))) 2))) = false := decide_eq_false c20
                        clear c20
                        by_cases c21 : (wrap64 (Int.tdiv x11_3 t125)) ≤ 64
                        · rw [if_pos c21] at H
                          have c21b0 : decide ((wrap64 (Int.tdiv x11_3 t125)) ≤ 64) = true := decide_eq_true c21
                          clear c21
                          by_cases c22 : (wrap64 (x9_2 * (wrap64 (a0 - a2)))) > x11_3
                          · rw [if_pos c22] at H
                            have c22b0 : decide (x11_3 < (wrap64 (x9_2 * (wrap64 (a0 - a2))))) = true := decide_eq_true c22
                            clear c22
                            simp only [Option.some.injEq, Prod.mk.injEq] at H
                            obtain ⟨rfl, rfl, rfl, rfl⟩ := H
                            go_wp2_with (first | ((with_reducible refine gate_callee (f := 65) rfl ?_); refine goesL_ (some 57) rfl rfl Try.func65 (by kernel_rfl) rfl #[.int .i64 t125, .int .i64 (wrap64 (Int.tdiv x11_3 t125)), .int .i64 x11_3] rfl (by (try simp only [List.map_toArray, List.map_cons, List.map_nil]); first | done | rfl | (simp only [List.length_drop, List.length_take]; rfl)) ?_; (with_reducible refine (codewrightref40_Terms.calls k3 t125 (wrap64 (Int.tdiv x11_3 t125)) x11_3 t126 _ A19.out).mono ?_); rintro e w' ⟨rfl, ⟨nd, rfl⟩⟩; refine ⟨_, rfl, ?_⟩; (try (rw [drewN_self wr]; generalize hq_ : World.drewN wr _ = wr; have n0_ : Aside0 (wr.heap[gb124]? = some (.cells #[.int .i64 x125000_2, .int .i64 x125001_2, .int .i64 x125002_2] 24 (0, 0))) := ⟨by rw [← hq_]; exact (by (with_reducible repeat (first | refine blk_drewN ?_ _ | refine blk_drew ?_ | refine blk_alloc ?_ _)); exact BK124.out)⟩; have n1_ : Aside0 (Below w.heap.size w wr) := ⟨by rw [← hq_]; exact (by repeat (first | (with_reducible first | exact HB.out | apply below_alloc | apply pw_below_drewN | apply below_drew1 | refine below_set ?_ GE124.out) | exact HB.out))⟩; clear BK124 HB hq_; have BK124 := n0_; have HB := n1_; clear n0_ n1_)); have hcz23_0 : wr.cell? ⟨gb124, 0, none⟩ = some (.int .i64 x125000_2) := (blk_cell BK124.out 0).trans rfl; have hcz23_1 : wr.cell? ⟨gb124, 1, none⟩ = some (.int .i64 x125001_2) := (blk_cell BK124.out 1).trans rfl; have hcz23_2 : wr.cell? ⟨gb124, 2, none⟩ = some (.int .i64 x125002_2) := (blk_cell BK124.out 2).trans rfl; have hfz23_0 := blk_frozen BK124.out 0; have hfz23_1 := blk_frozen BK124.out 1; have hfz23_2 := blk_frozen BK124.out 2))
                            refine bodyPost_ret (results_ct rfl _ _ gb124 24 #[.int .i64 x9_2, .int .i64 x11_3, .int .i64 (wrap64 (Int.tdiv x11_3 t125))] (0, 0) _ rfl (by (with_reducible repeat (first | refine blk_drewN ?_ _ | refine blk_drew ?_ | refine blk_alloc ?_ _)); refine blk_put (cs := #[.int .i64 x9_2, .int .i64 x11_3, .int .i64 x125002_2]) ?_ 2 _ rfl; (with_reducible repeat (first | refine blk_drewN ?_ _ | refine blk_drew ?_ | refine blk_alloc ?_ _)); refine blk_put (cs := #[.int .i64 x9_2, .int .i64 x125001_2, .int .i64 x125002_2]) ?_ 1 _ rfl; (with_reducible repeat (first | refine blk_drewN ?_ _ | refine blk_drew ?_ | refine blk_alloc ?_ _)); refine blk_put (cs := #[.int .i64 x125000_2, .int .i64 x125001_2, .int .i64 x125002_2]) ?_ 0 _ rfl; (with_reducible repeat (first | refine blk_drewN ?_ _ | refine blk_drew ?_ | refine blk_alloc ?_ _)); exact BK124.out) Try.underlying24 rfl (by kernel_rfl)) rfl ?_
                            exact ⟨by first | rfl | (simp [errW_none, errW_some] <;> rfl) | (simp [*, errW_none, errW_some] <;> rfl), by repeat (first | (with_reducible first | exact HB.out | apply below_alloc | apply pw_below_drewN | apply below_drew1 | refine below_set ?_ GE124.out) | exact HB.out)⟩
                          · rw [if_neg c22] at H
                            have c22b0 : decide (x11_3 < (wrap64 (x9_2 * (wrap64 (a0 - a2))))) = false := decide_eq_false c22
                            clear c22
                            have H' := Aside0.mk H
                            clear H
                            go_wp2_with (first | ((with_reducible refine gate_callee (f := 65) rfl ?_); refine goesL_ (some 57) rfl rfl Try.func65 (by kernel_rfl) rfl #[.int .i64 t125, .int .i64 (wrap64 (Int.tdiv x11_3 t125)), .int .i64 x11_3] rfl (by (try simp only [List.map_toArray, List.map_cons, List.map_nil]); first | done | rfl | (simp only [List.length_drop, List.length_take]; rfl)) ?_; (with_reducible refine (codewrightref40_Terms.calls k3 t125 (wrap64 (Int.tdiv x11_3 t125)) x11_3 t126 _ A19.out).mono ?_); rintro e w' ⟨rfl, ⟨nd, rfl⟩⟩; refine ⟨_, rfl, ?_⟩))
                            go_roundg k3
                            case measure => have := HJ3.out; have := HK2.out; have := HK3.out; omega
                            case rel => exact ⟨(wrap64 (x9_2 + 1)), (x125000_2), (x125001_2), (x125002_2), (by first | rfl | (simp; done) | (simp [*]; done)), H', ⟨by have := HJ3.out; have := HK2.out; have := HK3.out; omega⟩, ⟨by (with_reducible repeat (first | refine blk_drewN ?_ _ | refine blk_drew ?_ | refine blk_alloc ?_ _)); exact BK124.out⟩, ⟨by repeat (first | (with_reducible first | exact HB.out | apply below_alloc | apply pw_below_drewN | apply below_drew1 | refine below_set ?_ GE124.out) | exact HB.out)⟩⟩
                        · rw [if_neg c21] at H
                          have c21b0 : decide ((wrap64 (Int.tdiv x11_3 t125)) ≤ 64) = false := decide_eq_false c21
                          clear c21
                          have H' := Aside0.mk H
                          clear H
                          go_wp2_with (first | ((with_reducible refine gate_callee (f := 65) rfl ?_); refine goesL_ (some 57) rfl rfl Try.func65 (by kernel_rfl) rfl #[.int .i64 t125, .int .i64 (wrap64 (Int.tdiv x11_3 t125)), .int .i64 x11_3] rfl (by (try simp only [List.map_toArray, List.map_cons, List.map_nil]); first | done | rfl | (simp only [List.length_drop, List.length_take]; rfl)) ?_; (with_reducible refine (codewrightref40_Terms.calls k3 t125 (wrap64 (Int.tdiv x11_3 t125)) x11_3 t126 _ A19.out).mono ?_); rintro e w' ⟨rfl, ⟨nd, rfl⟩⟩; refine ⟨_, rfl, ?_⟩))
                          go_roundg k3
                          case measure => have := HJ3.out; have := HK2.out; have := HK3.out; omega
                          case rel => exact ⟨(wrap64 (x9_2 + 1)), (x125000_2), (x125001_2), (x125002_2), (by first | rfl | (simp; done) | (simp [*]; done)), H', ⟨by have := HJ3.out; have := HK2.out; have := HK3.out; omega⟩, ⟨by (with_reducible repeat (first | refine blk_drewN ?_ _ | refine blk_drew ?_ | refine blk_alloc ?_ _)); exact BK124.out⟩, ⟨by repeat (first | (with_reducible first | exact HB.out | apply below_alloc | apply pw_below_drewN | apply below_drew1 | refine below_set ?_ GE124.out) | exact HB.out)⟩⟩
            · rw [if_neg c15] at H
              have c15b0 : decide (x9_2 ≤ 16) = false := decide_eq_false c15
              clear c15
              simp only [Option.some.injEq, Prod.mk.injEq] at H
              obtain ⟨rfl, rfl, rfl, rfl⟩ := H
              have hcz24_0 : wr.cell? ⟨gb124, 0, none⟩ = some (.int .i64 x125000_2) := (blk_cell BK124.out 0).trans rfl
              have hcz24_1 : wr.cell? ⟨gb124, 1, none⟩ = some (.int .i64 x125001_2) := (blk_cell BK124.out 1).trans rfl
              have hcz24_2 : wr.cell? ⟨gb124, 2, none⟩ = some (.int .i64 x125002_2) := (blk_cell BK124.out 2).trans rfl
              have hfz24_0 := blk_frozen BK124.out 0
              have hfz24_1 := blk_frozen BK124.out 1
              have hfz24_2 := blk_frozen BK124.out 2
              go_wp2
              refine bodyPost_ret (results_ct rfl _ _ gb124 24 #[.int .i64 0, .int .i64 0, .int .i64 0] (0, 0) _ rfl (by (with_reducible repeat (first | refine blk_drewN ?_ _ | refine blk_drew ?_ | refine blk_alloc ?_ _)); refine blk_put (cs := #[.int .i64 0, .int .i64 0, .int .i64 x125002_2]) ?_ 2 _ rfl; (with_reducible repeat (first | refine blk_drewN ?_ _ | refine blk_drew ?_ | refine blk_alloc ?_ _)); refine blk_put (cs := #[.int .i64 0, .int .i64 x125001_2, .int .i64 x125002_2]) ?_ 1 _ rfl; (with_reducible repeat (first | refine blk_drewN ?_ _ | refine blk_drew ?_ | refine blk_alloc ?_ _)); refine blk_put (cs := #[.int .i64 x125000_2, .int .i64 x125001_2, .int .i64 x125002_2]) ?_ 0 _ rfl; (with_reducible repeat (first | refine blk_drewN ?_ _ | refine blk_drew ?_ | refine blk_alloc ?_ _)); exact BK124.out) Try.underlying24 rfl (by kernel_rfl)) rfl ?_
              exact ⟨by first | rfl | (simp [errW_none, errW_some] <;> rfl) | (simp [*, errW_none, errW_some] <;> rfl), by repeat (first | (with_reducible first | exact HB.out | apply below_alloc | apply pw_below_drewN | apply below_drew1 | refine below_set ?_ GE124.out) | exact HB.out)⟩

/-! ### codewrightlaw41_ListdecodeParams: function 3 -/
def codewrightlaw41_ListdecodeParams.f (k : Nat) (a0 : Int) (a1 : Int) (a2 : Int) : Option (Bool) := (codewrightlaw41_alive.f k).bind fun t127 => (if t127 = true then ((listdecode_Params.f k a0 a1 a2).bind fun bt128 => ((codewrightref41_Params.f k a0 a1 a2).bind fun bt133 => (if (bt128.1 == bt133.1 && (bt128.2.1 == bt133.2.1 && (bt128.2.2.1 == bt133.2.2.1))) = true then (some (bt128.2.2.2 == bt133.2.2.2)) else (some false)))) else (some false))
theorem codewrightlaw41_ListdecodeParams.mono : ∀ a0 a1 a2 k, LeO (codewrightlaw41_ListdecodeParams.f k a0 a1 a2) (codewrightlaw41_ListdecodeParams.f (k + 1) a0 a1 a2) := by
  intro a0 a1 a2 k
  unfold codewrightlaw41_ListdecodeParams.f
  repeat' first
      | (with_reducible exact codewrightlaw41_alive.mono _)
      | (with_reducible exact codewrightref41_Params.mono _ _ _ _)
      | (with_reducible exact listdecode_Params.mono _ _ _ _)
      | (with_reducible exact LeO.refl _)
      | (with_reducible exact LeO.none _)
      | (with_reducible refine LeO.ite ?_ ?_)
      | (with_reducible refine LeO.bind ?_ (fun _ => ?_))
      | exact codewrightlaw41_alive.mono _
      | exact codewrightref41_Params.mono _ _ _ _
      | exact listdecode_Params.mono _ _ _ _
      | exact LeO.none _
      | refine LeO.ite ?_ ?_
      | refine LeO.bind ?_ (fun _ => ?_)
set_option maxHeartbeats 8000000 in
set_option maxRecDepth 100000 in
theorem codewrightlaw41_ListdecodeParams.calls (k : Nat) (a0 : Int) (a1 : Int) (a2 : Int) (r : Bool) (w : World) (h : codewrightlaw41_ListdecodeParams.f k a0 a1 a2 = some r) :
    Calls Try.prog 3 #[.int .i64 a0, .int .i64 a1, .int .i64 a2] w fun e w' => e = .returned (.bool r) ∧ Below w.heap.size w w' := by
  have hu24 := Try.underlying24
  have HB := Aside0.mk (Below.refl w.heap.size w)
  have H : ((codewrightlaw41_alive.f k).bind fun t127 => (if t127 = true then ((listdecode_Params.f k a0 a1 a2).bind fun bt128 => ((codewrightref41_Params.f k a0 a1 a2).bind fun bt133 => (if (bt128.1 == bt133.1 && (bt128.2.1 == bt133.2.1 && (bt128.2.2.1 == bt133.2.2.1))) = true then (some (bt128.2.2.2 == bt133.2.2.2)) else (some false)))) else (some false))) = some r := h
  clear h
  replace H := Option.bind_eq_some_iff.mp H
  obtain ⟨t127, A40, H⟩ := H
  replace H : (if t127 = true then ((listdecode_Params.f k a0 a1 a2).bind fun bt128 => ((codewrightref41_Params.f k a0 a1 a2).bind fun bt133 => (if (bt128.1 == bt133.1 && (bt128.2.1 == bt133.2.1 && (bt128.2.2.1 == bt133.2.2.1))) = true then (some (bt128.2.2.2 == bt133.2.2.2)) else (some false)))) else (some false)) = some r := H
  have A4 := Aside0.mk A40
  clear A40
  by_cases c5 : t127 = true
  · subst c5
    have H1 : ((listdecode_Params.f k a0 a1 a2).bind fun bt128 => ((codewrightref41_Params.f k a0 a1 a2).bind fun bt133 => (if (bt128.1 == bt133.1 && (bt128.2.1 == bt133.2.1 && (bt128.2.2.1 == bt133.2.2.1))) = true then (some (bt128.2.2.2 == bt133.2.2.2)) else (some false)))) = some r := by rw [if_pos rfl] at H; exact H
    clear H
    have H := H1
    clear H1
    replace H := Option.bind_eq_some_iff.mp H
    obtain ⟨⟨t128, t129, t130, t131⟩, A60, H⟩ := H
    replace H : ((codewrightref41_Params.f k a0 a1 a2).bind fun bt133 => (if (t128 == bt133.1 && (t129 == bt133.2.1 && (t130 == bt133.2.2.1))) = true then (some (t131 == bt133.2.2.2)) else (some false))) = some r := H
    have A6 := Aside0.mk A60
    clear A60
    replace H := Option.bind_eq_some_iff.mp H
    obtain ⟨⟨t133, t134, t135, t136⟩, A70, H⟩ := H
    replace H : (if (t128 == t133 && (t129 == t134 && (t130 == t135))) = true then (some (t131 == t136)) else (some false)) = some r := H
    have A7 := Aside0.mk A70
    clear A70
    by_cases c8 : (t128 == t133 && (t129 == t134 && (t130 == t135))) = true
    · rw [if_pos c8] at H
      have c8b0 : (t128 == t133 && (t129 == t134 && (t130 == t135))) = true := c8
      (try (have c8b1 : decide (t128 = t133 && (t129 == t134 && (t130 == t135))) = true := by simpa using c8))
      (try (have c8b2 : (t128 == t133 && (t129 == t134 && (t130 == t135))) = true := by simpa using c8))
      clear c8
      obtain rfl := Option.some.inj H
      go_enter Try.func3, Try.ntmps3
      go_wp2_with (first | ((with_reducible refine gate_callee (f := 19) rfl ?_); refine goesL_ (some 11) rfl rfl Try.func19 (by kernel_rfl) rfl #[] rfl (by (try simp only [List.map_toArray, List.map_cons, List.map_nil]); first | done | rfl | (simp only [List.length_drop, List.length_take]; rfl)) ?_; (with_reducible refine (codewrightlaw41_alive.calls k  true _ A4.out).mono ?_); rintro e w9 ⟨rfl, hb⟩; refine ⟨_, rfl, ?_⟩; have n0_ := Aside0.mk (below_step (by repeat (first | (with_reducible first | exact HB.out | apply below_alloc | apply pw_below_drewN | apply below_drew1) | exact HB.out)) hb); clear HB; have HB := n0_; clear n0_; (try clear hb); (try clear hb2); (try clear hk); (try clear hi)) | ((with_reducible refine gate_callee (f := 20) rfl ?_); refine goesL_ (some 17) rfl rfl Try.func20 (by kernel_rfl) rfl #[.int .i64 a0, .int .i64 a1, .int .i64 a2] rfl (by (try simp only [List.map_toArray, List.map_cons, List.map_nil]); first | done | rfl | (simp only [List.length_drop, List.length_take]; rfl)) ?_; (with_reducible refine (listdecode_Params.calls k a0 a1 a2 t128 t129 t130 t131 _ A6.out).mono ?_); rintro e w10 ⟨rfl, hb⟩; refine ⟨_, rfl, ?_⟩; have n0_ := Aside0.mk (below_step (by repeat (first | (with_reducible first | exact HB.out | apply below_alloc | apply pw_below_drewN | apply below_drew1) | exact HB.out)) hb); clear HB; have HB := n0_; clear n0_; (try clear hb); (try clear hb2); (try clear hk); (try clear hi)) | ((with_reducible refine gate_dst (N := 7) rfl ?_); refine box_event ?hg (N := 7) ?hd (cs := #[.int .i64 0, .int .i64 0, .int .i64 0]) (t := 24) ?hr ?_; (case hd => rfl); (case hg => rfl); (case hr => first | (go_simp; done) | (go_simp; rfl)); intro gb132 hg w11 hbox hb; have n0_ := Aside0.mk (below_step (by repeat (first | (with_reducible first | exact HB.out | apply below_alloc | apply pw_below_drewN | apply below_drew1) | exact HB.out)) hb); have n1_ := Aside0.mk (hbox); have n2_ := Aside0.mk ((by rw [hg]; exact (below_size (by repeat (first | (with_reducible first | exact HB.out | apply below_alloc | apply pw_below_drewN | apply below_drew1) | exact HB.out))) : w.heap.size ≤ gb132)); have n3_ := Aside0.mk ((by rw [hg]; exact (below_size (by repeat (first | (with_reducible first | exact HB.out | apply below_alloc | apply pw_below_drewN | apply below_drew1) | exact HB.out))) : w.heap.size ≤ gb132)); clear HB; have HB := n0_; have BK132 := n1_; have GW132 := n2_; have GE132 := n3_; clear n0_ n1_ n2_ n3_; clear hb hbox hg; have hcz12_0 : w11.cell? ⟨gb132, 0, none⟩ = some (.int .i64 0) := (blk_cell BK132.out 0).trans rfl; have hcz12_1 : w11.cell? ⟨gb132, 1, none⟩ = some (.int .i64 0) := (blk_cell BK132.out 1).trans rfl; have hcz12_2 : w11.cell? ⟨gb132, 2, none⟩ = some (.int .i64 0) := (blk_cell BK132.out 2).trans rfl; have hfz12_0 := blk_frozen BK132.out 0; have hfz12_1 := blk_frozen BK132.out 1; have hfz12_2 := blk_frozen BK132.out 2) | ((with_reducible refine gate_callee (f := 21) rfl ?_); refine goesL_ (some 24) rfl rfl Try.func21 (by kernel_rfl) rfl #[.int .i64 a0, .int .i64 a1, .int .i64 a2] rfl (by (try simp only [List.map_toArray, List.map_cons, List.map_nil]); first | done | rfl | (simp only [List.length_drop, List.length_take]; rfl)) ?_; (with_reducible refine (codewrightref41_Params.calls k a0 a1 a2 t133 t134 t135 t136 _ A7.out).mono ?_); rintro e w13 ⟨rfl, hb⟩; refine ⟨_, rfl, ?_⟩; have n0_ := Aside0.mk (blk_below (g := gb132) (o := .cells #[.int .i64 t128, .int .i64 t129, .int .i64 t130] 24 (0, 0)) (by (with_reducible repeat (first | refine blk_drewN ?_ _ | refine blk_drew ?_ | refine blk_alloc ?_ _)); refine blk_put (cs := #[.int .i64 t128, .int .i64 t129, .int .i64 0]) ?_ 2 _ rfl; (with_reducible repeat (first | refine blk_drewN ?_ _ | refine blk_drew ?_ | refine blk_alloc ?_ _)); refine blk_put (cs := #[.int .i64 t128, .int .i64 0, .int .i64 0]) ?_ 1 _ rfl; (with_reducible repeat (first | refine blk_drewN ?_ _ | refine blk_drew ?_ | refine blk_alloc ?_ _)); refine blk_put (cs := #[.int .i64 0, .int .i64 0, .int .i64 0]) ?_ 0 _ rfl; (with_reducible repeat (first | refine blk_drewN ?_ _ | refine blk_drew ?_ | refine blk_alloc ?_ _)); exact BK132.out) hb); have n1_ := Aside0.mk (below_step (by repeat (first | (with_reducible first | exact HB.out | apply below_alloc | apply pw_below_drewN | apply below_drew1 | refine below_set ?_ GE132.out) | exact HB.out)) hb); clear BK132; clear HB; have BK132 := n0_; have HB := n1_; clear n0_ n1_; (try clear hb); (try clear hb2); (try clear hk); (try clear hi)) | ((with_reducible refine gate_dst (N := 9) rfl ?_); refine box_event ?hg (N := 9) ?hd (cs := #[.int .i64 0, .int .i64 0, .int .i64 0]) (t := 24) ?hr ?_; (case hd => rfl); (case hg => rfl); (case hr => first | (go_simp; done) | (go_simp; rfl)); intro gb137 hg w14 hbox hb; have n0_ := Aside0.mk (blk_below (g := gb132) (o := .cells #[.int .i64 t128, .int .i64 t129, .int .i64 t130] 24 (0, 0)) (by (with_reducible repeat (first | refine blk_drewN ?_ _ | refine blk_drew ?_ | refine blk_alloc ?_ _)); exact BK132.out) hb); have n1_ := Aside0.mk (below_step (by repeat (first | (with_reducible first | exact HB.out | apply below_alloc | apply pw_below_drewN | apply below_drew1 | refine below_set ?_ GE132.out) | exact HB.out)) hb); have n2_ := Aside0.mk (hbox); have n3_ := Aside0.mk ((by rw [hg]; exact (below_size (by repeat (first | (with_reducible first | exact HB.out | apply below_alloc | apply pw_below_drewN | apply below_drew1 | refine below_set ?_ GE132.out) | exact HB.out))) : w.heap.size ≤ gb137)); have n4_ := Aside0.mk ((by rw [hg]; exact (below_size (by repeat (first | (with_reducible first | exact HB.out | apply below_alloc | apply pw_below_drewN | apply below_drew1 | refine below_set ?_ GE132.out) | exact HB.out))) : w.heap.size ≤ gb137)); have n5_ := Aside0.mk ((by rw [hg]; exact Nat.ne_of_lt (blk_lt (g := gb132) (o := .cells #[.int .i64 t128, .int .i64 t129, .int .i64 t130] 24 (0, 0)) (by (with_reducible repeat (first | refine blk_drewN ?_ _ | refine blk_drew ?_ | refine blk_alloc ?_ _)); exact BK132.out)) : gb132 ≠ gb137)); have n6_ := Aside0.mk ((by rw [hg]; exact Nat.ne_of_gt (blk_lt (g := gb132) (o := .cells #[.int .i64 t128, .int .i64 t129, .int .i64 t130] 24 (0, 0)) (by (with_reducible repeat (first | refine blk_drewN ?_ _ | refine blk_drew ?_ | refine blk_alloc ?_ _)); exact BK132.out)) : gb137 ≠ gb132)); clear BK132; clear HB; have BK132 := n0_; have HB := n1_; have BK137 := n2_; have GW137 := n3_; have GE137 := n4_; have NB132_137 := n5_; have NB137_132 := n6_; clear n0_ n1_ n2_ n3_ n4_ n5_ n6_; clear hb hbox hg; have hnb15 := NB137_132.out; have hnc15 := NB132_137.out; have hcz16_0 : w14.cell? ⟨gb137, 0, none⟩ = some (.int .i64 0) := (blk_cell BK137.out 0).trans rfl; have hcz16_1 : w14.cell? ⟨gb137, 1, none⟩ = some (.int .i64 0) := (blk_cell BK137.out 1).trans rfl; have hcz16_2 : w14.cell? ⟨gb137, 2, none⟩ = some (.int .i64 0) := (blk_cell BK137.out 2).trans rfl; have hfz16_0 := blk_frozen BK137.out 0; have hfz16_1 := blk_frozen BK137.out 1; have hfz16_2 := blk_frozen BK137.out 2; have hcz17_0 : w14.cell? ⟨gb132, 0, none⟩ = some (.int .i64 t128) := (blk_cell BK132.out 0).trans rfl; have hcz17_1 : w14.cell? ⟨gb132, 1, none⟩ = some (.int .i64 t129) := (blk_cell BK132.out 1).trans rfl; have hcz17_2 : w14.cell? ⟨gb132, 2, none⟩ = some (.int .i64 t130) := (blk_cell BK132.out 2).trans rfl; have hfz17_0 := blk_frozen BK132.out 0; have hfz17_1 := blk_frozen BK132.out 1; have hfz17_2 := blk_frozen BK132.out 2))
      go_ret
      exact ⟨by first | rfl | (simp [errW_none, errW_some] <;> rfl) | (simp [*, errW_none, errW_some] <;> rfl), by repeat (first | (with_reducible first | exact HB.out | apply below_alloc | apply pw_below_drewN | apply below_drew1 | refine below_set ?_ GE132.out | refine below_set ?_ GE137.out) | exact HB.out)⟩
    · rw [if_neg c8] at H
      have c8b0 : (t128 == t133 && (t129 == t134 && (t130 == t135))) = false := by simpa using c8
      (try (have c8b1 : decide (t128 = t133 && (t129 == t134 && (t130 == t135))) = false := by simpa using c8))
      (try (have c8b2 : (t128 == t133 && (t129 == t134 && (t130 == t135))) = false := by simpa using c8))
      (try (have c8b3 : ¬ (t128 = t133 && (t129 == t134 && (t130 == t135))) := by simpa using c8))
      clear c8
      obtain rfl := Option.some.inj H
      go_enter Try.func3, Try.ntmps3
      go_wp2_with (first | ((with_reducible refine gate_callee (f := 19) rfl ?_); refine goesL_ (some 11) rfl rfl Try.func19 (by kernel_rfl) rfl #[] rfl (by (try simp only [List.map_toArray, List.map_cons, List.map_nil]); first | done | rfl | (simp only [List.length_drop, List.length_take]; rfl)) ?_; (with_reducible refine (codewrightlaw41_alive.calls k  true _ A4.out).mono ?_); rintro e w18 ⟨rfl, hb⟩; refine ⟨_, rfl, ?_⟩; have n0_ := Aside0.mk (below_step (by repeat (first | (with_reducible first | exact HB.out | apply below_alloc | apply pw_below_drewN | apply below_drew1) | exact HB.out)) hb); clear HB; have HB := n0_; clear n0_; (try clear hb); (try clear hb2); (try clear hk); (try clear hi)) | ((with_reducible refine gate_callee (f := 20) rfl ?_); refine goesL_ (some 17) rfl rfl Try.func20 (by kernel_rfl) rfl #[.int .i64 a0, .int .i64 a1, .int .i64 a2] rfl (by (try simp only [List.map_toArray, List.map_cons, List.map_nil]); first | done | rfl | (simp only [List.length_drop, List.length_take]; rfl)) ?_; (with_reducible refine (listdecode_Params.calls k a0 a1 a2 t128 t129 t130 t131 _ A6.out).mono ?_); rintro e w19 ⟨rfl, hb⟩; refine ⟨_, rfl, ?_⟩; have n0_ := Aside0.mk (below_step (by repeat (first | (with_reducible first | exact HB.out | apply below_alloc | apply pw_below_drewN | apply below_drew1) | exact HB.out)) hb); clear HB; have HB := n0_; clear n0_; (try clear hb); (try clear hb2); (try clear hk); (try clear hi)) | ((with_reducible refine gate_dst (N := 7) rfl ?_); refine box_event ?hg (N := 7) ?hd (cs := #[.int .i64 0, .int .i64 0, .int .i64 0]) (t := 24) ?hr ?_; (case hd => rfl); (case hg => rfl); (case hr => first | (go_simp; done) | (go_simp; rfl)); intro gb132 hg w20 hbox hb; have n0_ := Aside0.mk (below_step (by repeat (first | (with_reducible first | exact HB.out | apply below_alloc | apply pw_below_drewN | apply below_drew1) | exact HB.out)) hb); have n1_ := Aside0.mk (hbox); have n2_ := Aside0.mk ((by rw [hg]; exact (below_size (by repeat (first | (with_reducible first | exact HB.out | apply below_alloc | apply pw_below_drewN | apply below_drew1) | exact HB.out))) : w.heap.size ≤ gb132)); have n3_ := Aside0.mk ((by rw [hg]; exact (below_size (by repeat (first | (with_reducible first | exact HB.out | apply below_alloc | apply pw_below_drewN | apply below_drew1) | exact HB.out))) : w.heap.size ≤ gb132)); clear HB; have HB := n0_; have BK132 := n1_; have GW132 := n2_; have GE132 := n3_; clear n0_ n1_ n2_ n3_; clear hb hbox hg; have hcz21_0 : w20.cell? ⟨gb132, 0, none⟩ = some (.int .i64 0) := (blk_cell BK132.out 0).trans rfl; have hcz21_1 : w20.cell? ⟨gb132, 1, none⟩ = some (.int .i64 0) := (blk_cell BK132.out 1).trans rfl; have hcz21_2 : w20.cell? ⟨gb132, 2, none⟩ = some (.int .i64 0) := (blk_cell BK132.out 2).trans rfl; have hfz21_0 := blk_frozen BK132.out 0; have hfz21_1 := blk_frozen BK132.out 1; have hfz21_2 := blk_frozen BK132.out 2) | ((with_reducible refine gate_callee (f := 21) rfl ?_); refine goesL_ (some 24) rfl rfl Try.func21 (by kernel_rfl) rfl #[.int .i64 a0, .int .i64 a1, .int .i64 a2] rfl (by (try simp only [List.map_toArray, List.map_cons, List.map_nil]); first | done | rfl | (simp only [List.length_drop, List.length_take]; rfl)) ?_; (with_reducible refine (codewrightref41_Params.calls k a0 a1 a2 t133 t134 t135 t136 _ A7.out).mono ?_); rintro e w22 ⟨rfl, hb⟩; refine ⟨_, rfl, ?_⟩; have n0_ := Aside0.mk (blk_below (g := gb132) (o := .cells #[.int .i64 t128, .int .i64 t129, .int .i64 t130] 24 (0, 0)) (by (with_reducible repeat (first | refine blk_drewN ?_ _ | refine blk_drew ?_ | refine blk_alloc ?_ _)); refine blk_put (cs := #[.int .i64 t128, .int .i64 t129, .int .i64 0]) ?_ 2 _ rfl; (with_reducible repeat (first | refine blk_drewN ?_ _ | refine blk_drew ?_ | refine blk_alloc ?_ _)); refine blk_put (cs := #[.int .i64 t128, .int .i64 0, .int .i64 0]) ?_ 1 _ rfl; (with_reducible repeat (first | refine blk_drewN ?_ _ | refine blk_drew ?_ | refine blk_alloc ?_ _)); refine blk_put (cs := #[.int .i64 0, .int .i64 0, .int .i64 0]) ?_ 0 _ rfl; (with_reducible repeat (first | refine blk_drewN ?_ _ | refine blk_drew ?_ | refine blk_alloc ?_ _)); exact BK132.out) hb); have n1_ := Aside0.mk (below_step (by repeat (first | (with_reducible first | exact HB.out | apply below_alloc | apply pw_below_drewN | apply below_drew1 | refine below_set ?_ GE132.out) | exact HB.out)) hb); clear BK132; clear HB; have BK132 := n0_; have HB := n1_; clear n0_ n1_; (try clear hb); (try clear hb2); (try clear hk); (try clear hi)) | ((with_reducible refine gate_dst (N := 9) rfl ?_); refine box_event ?hg (N := 9) ?hd (cs := #[.int .i64 0, .int .i64 0, .int .i64 0]) (t := 24) ?hr ?_; (case hd => rfl); (case hg => rfl); (case hr => first | (go_simp; done) | (go_simp; rfl)); intro gb137 hg w23 hbox hb; have n0_ := Aside0.mk (blk_below (g := gb132) (o := .cells #[.int .i64 t128, .int .i64 t129, .int .i64 t130] 24 (0, 0)) (by (with_reducible repeat (first | refine blk_drewN ?_ _ | refine blk_drew ?_ | refine blk_alloc ?_ _)); exact BK132.out) hb); have n1_ := Aside0.mk (below_step (by repeat (first | (with_reducible first | exact HB.out | apply below_alloc | apply pw_below_drewN | apply below_drew1 | refine below_set ?_ GE132.out) | exact HB.out)) hb); have n2_ := Aside0.mk (hbox); have n3_ := Aside0.mk ((by rw [hg]; exact (below_size (by repeat (first | (with_reducible first | exact HB.out | apply below_alloc | apply pw_below_drewN | apply below_drew1 | refine below_set ?_ GE132.out) | exact HB.out))) : w.heap.size ≤ gb137)); have n4_ := Aside0.mk ((by rw [hg]; exact (below_size (by repeat (first | (with_reducible first | exact HB.out | apply below_alloc | apply pw_below_drewN | apply below_drew1 | refine below_set ?_ GE132.out) | exact HB.out))) : w.heap.size ≤ gb137)); have n5_ := Aside0.mk ((by rw [hg]; exact Nat.ne_of_lt (blk_lt (g := gb132) (o := .cells #[.int .i64 t128, .int .i64 t129, .int .i64 t130] 24 (0, 0)) (by (with_reducible repeat (first | refine blk_drewN ?_ _ | refine blk_drew ?_ | refine blk_alloc ?_ _)); exact BK132.out)) : gb132 ≠ gb137)); have n6_ := Aside0.mk ((by rw [hg]; exact Nat.ne_of_gt (blk_lt (g := gb132) (o := .cells #[.int .i64 t128, .int .i64 t129, .int .i64 t130] 24 (0, 0)) (by (with_reducible repeat (first | refine blk_drewN ?_ _ | refine blk_drew ?_ | refine blk_alloc ?_ _)); exact BK132.out)) : gb137 ≠ gb132)); clear BK132; clear HB; have BK132 := n0_; have HB := n1_; have BK137 := n2_; have GW137 := n3_; have GE137 := n4_; have NB132_137 := n5_; have NB137_132 := n6_; clear n0_ n1_ n2_ n3_ n4_ n5_ n6_; clear hb hbox hg; have hnb24 := NB137_132.out; have hnc24 := NB132_137.out; have hcz25_0 : w23.cell? ⟨gb137, 0, none⟩ = some (.int .i64 0) := (blk_cell BK137.out 0).trans rfl; have hcz25_1 : w23.cell? ⟨gb137, 1, none⟩ = some (.int .i64 0) := (blk_cell BK137.out 1).trans rfl; have hcz25_2 : w23.cell? ⟨gb137, 2, none⟩ = some (.int .i64 0) := (blk_cell BK137.out 2).trans rfl; have hfz25_0 := blk_frozen BK137.out 0; have hfz25_1 := blk_frozen BK137.out 1; have hfz25_2 := blk_frozen BK137.out 2; have hcz26_0 : w23.cell? ⟨gb132, 0, none⟩ = some (.int .i64 t128) := (blk_cell BK132.out 0).trans rfl; have hcz26_1 : w23.cell? ⟨gb132, 1, none⟩ = some (.int .i64 t129) := (blk_cell BK132.out 1).trans rfl; have hcz26_2 : w23.cell? ⟨gb132, 2, none⟩ = some (.int .i64 t130) := (blk_cell BK132.out 2).trans rfl; have hfz26_0 := blk_frozen BK132.out 0; have hfz26_1 := blk_frozen BK132.out 1; have hfz26_2 := blk_frozen BK132.out 2))
      go_ret
      exact ⟨by first | rfl | (simp [errW_none, errW_some] <;> rfl) | (simp [*, errW_none, errW_some] <;> rfl), by repeat (first | (with_reducible first | exact HB.out | apply below_alloc | apply pw_below_drewN | apply below_drew1 | refine below_set ?_ GE132.out | refine below_set ?_ GE137.out) | exact HB.out)⟩
  · replace c5 := Bool.eq_false_iff.mpr c5
    subst c5
    have H1 : (some false) = some r := by rw [if_neg (show ¬ (false = true) by decide)] at H; exact H
    clear H
    have H := H1
    clear H1
    obtain rfl := Option.some.inj H
    go_enter Try.func3, Try.ntmps3
    go_wp2_with (first | ((with_reducible refine gate_callee (f := 19) rfl ?_); refine goesL_ (some 11) rfl rfl Try.func19 (by kernel_rfl) rfl #[] rfl (by (try simp only [List.map_toArray, List.map_cons, List.map_nil]); first | done | rfl | (simp only [List.length_drop, List.length_take]; rfl)) ?_; (with_reducible refine (codewrightlaw41_alive.calls k  false _ A4.out).mono ?_); rintro e w27 ⟨rfl, hb⟩; refine ⟨_, rfl, ?_⟩; have n0_ := Aside0.mk (below_step (by repeat (first | (with_reducible first | exact HB.out | apply below_alloc | apply pw_below_drewN | apply below_drew1) | exact HB.out)) hb); clear HB; have HB := n0_; clear n0_; (try clear hb); (try clear hb2); (try clear hk); (try clear hi)))
    go_ret
    exact ⟨by first | rfl | (simp [errW_none, errW_some] <;> rfl) | (simp [*, errW_none, errW_some] <;> rfl), by repeat (first | (with_reducible first | exact HB.out | apply below_alloc | apply pw_below_drewN | apply below_drew1) | exact HB.out)⟩

/-- THE ONE PURE STATEMENT of codewrightlaw41_ListdecodeParams: yours. -/
def codewrightlaw41_ListdecodeParams.Pure : Prop := ∀ (a0 : Int) (a1 : Int) (a2 : Int), (Lit.int .i64 a0).wf = true → (Lit.int .i64 a1).wf = true → (Lit.int .i64 a2).wf = true → ∃ k, codewrightlaw41_ListdecodeParams.f k a0 a1 a2 = some true
theorem codewrightlaw41_ListdecodeParams.walk (P : codewrightlaw41_ListdecodeParams.Pure) (a0 : Int) (a1 : Int) (a2 : Int) (w : World) (w0 : (Lit.int .i64 a0).wf = true) (w1 : (Lit.int .i64 a1).wf = true) (w2 : (Lit.int .i64 a2).wf = true) :
    Calls Try.prog 3 #[.int .i64 a0, .int .i64 a1, .int .i64 a2] w fun e w' => e = .returned (.bool true) ∧ Below w.heap.size w w' := by
  obtain ⟨k, h⟩ := P a0 a1 a2 w0 w1 w2
  refine (codewrightlaw41_ListdecodeParams.calls k a0 a1 a2 true w h).mono ?_
  rintro e w' ⟨rfl, hd⟩
  exact ⟨rfl, hd⟩

end Go.Proofs.Ytgjphmcofmkmfaa.PListdecodeParams
