-- PRINTED BY print.sh 35421559b90ae4d0a3588c463048766b98c2df88dd9212a6774a882060cdf62d: not written by this session
import Derived.Test.YtgjphmcofmkmfaaPListdecodeLimitx0
import Derived.Test.YtgjphmcofmkmfaaPListdecodeLimitx2
namespace Go.Proofs.Ytgjphmcofmkmfaa.PListdecodeLimit
open Go.RowKit Go.Proofs.YtgjphmcofmkmfaaW.PrintWords Go.Proofs.YtgjphmcofmkmfaaW.PrintLast Go.Proofs.YtgjphmcofmkmfaaW.PrintMore
attribute [local go_sem] max2_int min2_int max_two min_two max_three min_three max_four min_four   -- for this text's walks alone
set_option linter.unusedVariables false
set_option linter.unusedSimpArgs false

/-! ### codewrightref40_Terms: function 65 -/
def codewrightref40_Terms.l0 : Nat → Int → Int → Int → Int → Int → Option (Int)
  | 0, _, _, _, _, _ => none
  | k + 1, x0, x1, x2, x7, x8 => if x8 ≤ x1 then (if (wrap64 (x2 - (wrap64 (x0 * x8)))) ≥ 0 then (codewrightref40_Terms.l0 k x0 x1 x2 (wrap64 (x7 + (wrap64 ((wrap64 (x2 - (wrap64 (x0 * x8)))) + 1)))) (wrap64 (x8 + 1))) else (codewrightref40_Terms.l0 k x0 x1 x2 x7 (wrap64 (x8 + 1)))) else (some x7)
def codewrightref40_Terms.f (k : Nat) (a0 : Int) (a1 : Int) (a2 : Int) : Option (Int) := codewrightref40_Terms.l0 k a0 a1 a2 0 0
theorem codewrightref40_Terms.mono_l : ∀ k, (∀ y0 y1 y2 y3 y4, LeO (codewrightref40_Terms.l0 k y0 y1 y2 y3 y4) (codewrightref40_Terms.l0 (k + 1) y0 y1 y2 y3 y4))
  | 0 => fun _ _ _ _ _ r h => by simp [codewrightref40_Terms.l0] at h
  | k + 1 => by
    have ih0 := codewrightref40_Terms.mono_l k
    · intro y0 y1 y2 y3 y4
      unfold codewrightref40_Terms.l0
      repeat' first
      | (with_reducible exact ih0 _ _ _ _ _)
      | (with_reducible exact LeO.refl _)
      | (with_reducible exact LeO.none _)
      | (with_reducible refine LeO.ite ?_ ?_)
      | (with_reducible refine LeO.bind ?_ (fun _ => ?_))
      | exact ih0 _ _ _ _ _
      | exact LeO.none _
      | refine LeO.ite ?_ ?_
      | refine LeO.bind ?_ (fun _ => ?_)
theorem codewrightref40_Terms.mono : ∀ a0 a1 a2 k, LeO (codewrightref40_Terms.f k a0 a1 a2) (codewrightref40_Terms.f (k + 1) a0 a1 a2) := by
  intro a0 a1 a2 k
  have ih0 := codewrightref40_Terms.mono_l k
  unfold codewrightref40_Terms.f
  repeat' first
      | (with_reducible exact ih0 _ _ _ _ _)
      | (with_reducible exact LeO.refl _)
      | (with_reducible exact LeO.none _)
      | (with_reducible refine LeO.ite ?_ ?_)
      | (with_reducible refine LeO.bind ?_ (fun _ => ?_))
      | exact ih0 _ _ _ _ _
      | exact LeO.none _
      | refine LeO.ite ?_ ?_
      | refine LeO.bind ?_ (fun _ => ?_)
set_option maxHeartbeats 8000000 in
set_option maxRecDepth 100000 in
theorem codewrightref40_Terms.calls (k : Nat) (a0 : Int) (a1 : Int) (a2 : Int) (r : Int) (w : World) (h : codewrightref40_Terms.f k a0 a1 a2 = some r) :
    Calls Try.prog 65 #[.int .i64 a0, .int .i64 a1, .int .i64 a2] w fun e w' => e = .returned (.int .i64 r) ∧ Drawn0 w w' := by
  have H : (codewrightref40_Terms.l0 k a0 a1 a2 0 0) = some r := h
  clear h
  have H' := Aside0.mk H
  clear H
  go_enter Try.func65, Try.ntmps65
  go_wp2
  go_loopg [7, 8] k (fun kq v7 v8 w' => ∃ (x7_1 : Int) (x8_1 : Int), v7 = .int .i64 x7_1 ∧ v8 = .int .i64 x8_1 ∧ Aside0 (codewrightref40_Terms.l0 kq a0 a1 a2 x7_1 x8_1 = some r) ∧ Aside0 (kq ≤ k) ∧ Drawn0 w w')
  case atStart => exact ⟨(0), (0), (by first | rfl | (simp; done) | (simp [*]; done)), (by first | rfl | (simp; done) | (simp [*]; done)), H', ⟨Nat.le_refl _⟩, by repeat (first | exact Drawn0.refl _ | apply Drawn0.step)⟩
  case round =>
    clear H'
    try clear p2
    obtain ⟨x7_1, x8_1, rfl, rfl, HA, HK1, ⟨m1, rfl⟩⟩ := hrel
    cases gk with
    | zero => exact absurd HA.out (by simp [codewrightref40_Terms.l0])
    | succ k1 =>
      have H := HA.out
      clear HA
      simp only [codewrightref40_Terms.l0] at H
      by_cases c4 : x8_1 ≤ a1
      · rw [if_pos c4] at H
        have c4b0 : decide (x8_1 ≤ a1) = true := decide_eq_true c4
        clear c4
        by_cases c5 : (wrap64 (a2 - (wrap64 (a0 * x8_1)))) ≥ 0
        · rw [if_pos c5] at H
          have c5b0 : decide (0 ≤ (wrap64 (a2 - (wrap64 (a0 * x8_1))))) = true := decide_eq_true c5
          clear c5
          have H' := Aside0.mk H
          clear H
          go_wp2
          go_roundg k1
          case measure => have := HK1.out; omega
          case rel => exact ⟨(wrap64 (x7_1 + (wrap64 ((wrap64 (a2 - (wrap64 (a0 * x8_1)))) + 1)))), (wrap64 (x8_1 + 1)), (by first | rfl | (simp; done) | (simp [*]; done)), (by first | rfl | (simp; done) | (simp [*]; done)), H', ⟨by have := HK1.out; omega⟩, by repeat (first | exact Drawn0.refl _ | apply Drawn0.step)⟩
        · rw [if_neg c5] at H
          have c5b0 : decide (0 ≤ (wrap64 (a2 - (wrap64 (a0 * x8_1))))) = false := decide_eq_false c5
          clear c5
          have H' := Aside0.mk H
          clear H
          go_wp2
          go_roundg k1
          case measure => have := HK1.out; omega
          case rel => exact ⟨(x7_1), (wrap64 (x8_1 + 1)), (by first | rfl | (simp; done) | (simp [*]; done)), (by first | rfl | (simp; done) | (simp [*]; done)), H', ⟨by have := HK1.out; omega⟩, by repeat (first | exact Drawn0.refl _ | apply Drawn0.step)⟩
      · rw [if_neg c4] at H
        have c4b0 : decide (x8_1 ≤ a1) = false := decide_eq_false c4
        clear c4
        obtain rfl := Option.some.inj H
        go_wp2
        go_ret
        exact ⟨by first | rfl | (simp; done) | (simp [*]; done), by repeat (first | exact Drawn0.refl _ | apply Drawn0.step)⟩

/-! ### codewrightref41_Params: function 21 -/
mutual
def codewrightref41_Params.j0 : Nat → Int → Int → Int → Bool → Option (Int × Int × Int × Int)
  | 0, _, _, _, _ => none
  | k + 1, x0, x1, x2, x35 => if x35 = true then (some (0, 0, 0, 6)) else ((codewrightref41_Weight.f x1).bind fun t125 => (codewrightref41_Params.l0 k x0 x2 t125 1))
def codewrightref41_Params.l0 : Nat → Int → Int → Int → Int → Option (Int × Int × Int × Int)
  | 0, _, _, _, _ => none
  | k + 1, x0, x2, x8, x9 => if x9 ≤ 16 then (if (wrap64 (Int.tdiv (wrap64 ((wrap64 (x0 * x9)) * (wrap64 (x9 + 1)))) 2)) > 4096 then (some (0, 0, 0, 11)) else (codewrightref41_Params.l1 k x0 x2 x8 x9 (wrap64 (Int.tdiv (wrap64 ((wrap64 (x0 * x9)) * (wrap64 (x9 + 1)))) 2)) 0)) else (some (0, 0, 0, 11))
def codewrightref41_Params.l1 : Nat → Int → Int → Int → Int → Int → Int → Option (Int × Int × Int × Int)
  | 0, _, _, _, _, _, _ => none
  | k + 1, x0, x2, x8, x9, x10, x11 => if x8 = 0 then (none) else ((codewrightref40_Terms.f k x8 (wrap64 (Int.tdiv x11 x8)) x11).bind fun t126 => (if t126 ≤ x10 then (codewrightref41_Params.l1 k x0 x2 x8 x9 x10 (wrap64 (x11 + 1))) else (if (wrap64 (Int.tdiv x11 x8)) ≤ 64 then (if (wrap64 (x9 * (wrap64 (x0 - x2)))) > x11 then (some (x9, x11, wrap64 (Int.tdiv x11 x8), 0)) else (codewrightref41_Params.l0 k x0 x2 x8 (wrap64 (x9 + 1)))) else (codewrightref41_Params.l0 k x0 x2 x8 (wrap64 (x9 + 1))))))
end
def codewrightref41_Params.f (k : Nat) (a0 : Int) (a1 : Int) (a2 : Int) : Option (Int × Int × Int × Int) := if a0 < 1 then (codewrightref41_Params.j0 k a0 a1 a2 true) else (if a0 > 64 then (codewrightref41_Params.j0 k a0 a1 a2 true) else (if a1 < 0 then (codewrightref41_Params.j0 k a0 a1 a2 true) else (if a1 > a0 then (codewrightref41_Params.j0 k a0 a1 a2 true) else (if a2 < 0 then (codewrightref41_Params.j0 k a0 a1 a2 true) else (codewrightref41_Params.j0 k a0 a1 a2 (decide (a2 > a0)))))))
theorem codewrightref41_Params.mono_l : ∀ k, (∀ y0 y1 y2 y3, LeO (codewrightref41_Params.j0 k y0 y1 y2 y3) (codewrightref41_Params.j0 (k + 1) y0 y1 y2 y3)) ∧ (∀ y0 y1 y2 y3, LeO (codewrightref41_Params.l0 k y0 y1 y2 y3) (codewrightref41_Params.l0 (k + 1) y0 y1 y2 y3)) ∧ (∀ y0 y1 y2 y3 y4 y5, LeO (codewrightref41_Params.l1 k y0 y1 y2 y3 y4 y5) (codewrightref41_Params.l1 (k + 1) y0 y1 y2 y3 y4 y5))
  | 0 => ⟨fun _ _ _ _ r h => by simp [codewrightref41_Params.j0] at h, fun _ _ _ _ r h => by simp [codewrightref41_Params.l0] at h, fun _ _ _ _ _ _ r h => by simp [codewrightref41_Params.l1] at h⟩
  | k + 1 => by
    obtain ⟨ih0, ih1, ih2⟩ := codewrightref41_Params.mono_l k
    refine ⟨?_, ?_, ?_⟩
    · intro y0 y1 y2 y3
      unfold codewrightref41_Params.j0
      repeat' first
      | (with_reducible exact ih0 _ _ _ _)
      | (with_reducible exact ih1 _ _ _ _)
      | (with_reducible exact ih2 _ _ _ _ _ _)
      | (with_reducible exact codewrightref40_Terms.mono _ _ _ _)
      | (with_reducible exact LeO.refl _)
      | (with_reducible exact LeO.none _)
      | (with_reducible refine LeO.ite ?_ ?_)
      | (with_reducible refine LeO.bind ?_ (fun _ => ?_))
      | exact ih0 _ _ _ _
      | exact ih1 _ _ _ _
      | exact ih2 _ _ _ _ _ _
      | exact codewrightref40_Terms.mono _ _ _ _
      | exact LeO.none _
      | refine LeO.ite ?_ ?_
      | refine LeO.bind ?_ (fun _ => ?_)
    · intro y0 y1 y2 y3
      unfold codewrightref41_Params.l0
      repeat' first
      | (with_reducible exact ih0 _ _ _ _)
      | (with_reducible exact ih1 _ _ _ _)
      | (with_reducible exact ih2 _ _ _ _ _ _)
      | (with_reducible exact codewrightref40_Terms.mono _ _ _ _)
      | (with_reducible exact LeO.refl _)
      | (with_reducible exact LeO.none _)
      | (with_reducible refine LeO.ite ?_ ?_)
      | (with_reducible refine LeO.bind ?_ (fun _ => ?_))
      | exact ih0 _ _ _ _
      | exact ih1 _ _ _ _
      | exact ih2 _ _ _ _ _ _
      | exact codewrightref40_Terms.mono _ _ _ _
      | exact LeO.none _
      | refine LeO.ite ?_ ?_
      | refine LeO.bind ?_ (fun _ => ?_)
    · intro y0 y1 y2 y3 y4 y5
      unfold codewrightref41_Params.l1
      repeat' first
      | (with_reducible exact ih0 _ _ _ _)
      | (with_reducible exact ih1 _ _ _ _)
      | (with_reducible exact ih2 _ _ _ _ _ _)
      | (with_reducible exact codewrightref40_Terms.mono _ _ _ _)
      | (with_reducible exact LeO.refl _)
      | (with_reducible exact LeO.none _)
      | (with_reducible refine LeO.ite ?_ ?_)
      | (with_reducible refine LeO.bind ?_ (fun _ => ?_))
      | exact ih0 _ _ _ _
      | exact ih1 _ _ _ _
      | exact ih2 _ _ _ _ _ _
      | exact codewrightref40_Terms.mono _ _ _ _
      | exact LeO.none _
      | refine LeO.ite ?_ ?_
      | refine LeO.bind ?_ (fun _ => ?_)
theorem codewrightref41_Params.mono : ∀ a0 a1 a2 k, LeO (codewrightref41_Params.f k a0 a1 a2) (codewrightref41_Params.f (k + 1) a0 a1 a2) := by
  intro a0 a1 a2 k
  obtain ⟨ih0, ih1, ih2⟩ := codewrightref41_Params.mono_l k
  unfold codewrightref41_Params.f
  repeat' first
      | (with_reducible exact ih0 _ _ _ _)
      | (with_reducible exact ih1 _ _ _ _)
      | (with_reducible exact ih2 _ _ _ _ _ _)
      | (with_reducible exact codewrightref40_Terms.mono _ _ _ _)
      | (with_reducible exact LeO.refl _)
      | (with_reducible exact LeO.none _)
      | (with_reducible refine LeO.ite ?_ ?_)
      | (with_reducible refine LeO.bind ?_ (fun _ => ?_))
      | exact ih0 _ _ _ _
      | exact ih1 _ _ _ _
      | exact ih2 _ _ _ _ _ _
      | exact codewrightref40_Terms.mono _ _ _ _
      | exact LeO.none _
      | refine LeO.ite ?_ ?_
      | refine LeO.bind ?_ (fun _ => ?_)
set_option maxHeartbeats 8000000 in
set_option maxRecDepth 100000 in
theorem codewrightref41_Params.calls (k : Nat) (a0 : Int) (a1 : Int) (a2 : Int) (r1 : Int) (r2 : Int) (r3 : Int) (r4 : Int) (w : World) (h : codewrightref41_Params.f k a0 a1 a2 = some (r1, r2, r3, r4)) :
    Calls Try.prog 21 #[.int .i64 a0, .int .i64 a1, .int .i64 a2] w fun e w' => e = .returned (.tuple #[.agg #[.int .i64 r1, .int .i64 r2, .int .i64 r3], .int .i64 r4]) ∧ Below w.heap.size w w' := by
  have hu24 := Try.underlying24
  have HB := Aside0.mk (Below.refl w.heap.size w)
  have H : (if a0 < 1 then (codewrightref41_Params.j0 k a0 a1 a2 true) else (if a0 > 64 then (codewrightref41_Params.j0 k a0 a1 a2 true) else (if a1 < 0 then (codewrightref41_Params.j0 k a0 a1 a2 true) else (if a1 > a0 then (codewrightref41_Params.j0 k a0 a1 a2 true) else (if a2 < 0 then (codewrightref41_Params.j0 k a0 a1 a2 true) else (codewrightref41_Params.j0 k a0 a1 a2 (decide (a2 > a0)))))))) = some (r1, r2, r3, r4) := h
  clear h
  have HC4 := Aside0.mk H
  clear H
  go_enter Try.func21, Try.ntmps21
  go_upto_region 1 with (first | ((with_reducible refine gate_dst (N := 6) rfl ?_); refine box_event ?hg (N := 6) ?hd (cs := #[.int .i64 0, .int .i64 0, .int .i64 0]) (t := 24) ?hr ?_; (case hd => rfl); (case hg => rfl); (case hr => first | (go_simp; done) | (go_simp; rfl)); intro gb124 hg w5 hbox hb; have n0_ := Aside0.mk (below_step (by repeat (first | (with_reducible first | exact HB.out | apply below_alloc | apply pw_below_drewN | apply below_drew1) | exact HB.out)) hb); have n1_ := Aside0.mk (hbox); have n2_ := Aside0.mk ((by rw [hg]; exact (below_size (by repeat (first | (with_reducible first | exact HB.out | apply below_alloc | apply pw_below_drewN | apply below_drew1) | exact HB.out))) : w.heap.size ≤ gb124)); have n3_ := Aside0.mk ((by rw [hg]; exact (below_size (by repeat (first | (with_reducible first | exact HB.out | apply below_alloc | apply pw_below_drewN | apply below_drew1) | exact HB.out))) : w.heap.size ≤ gb124)); clear HB; have HB := n0_; have BK124 := n1_; have GW124 := n2_; have GE124 := n3_; clear n0_ n1_ n2_ n3_; clear hb hbox hg))
  (try simp only [Act.put, List.setIfInBounds_toArray, List.set_cons_zero, List.set_cons_succ])
  go_cut [35] (fun v35 wc => ∃ (kq : Nat) (x35_3 : Bool), v35 = .bool x35_3 ∧ Aside0 (codewrightref41_Params.j0 kq a0 a1 a2 x35_3 = some (r1, r2, r3, r4)) ∧ Aside0 (kq ≤ k) ∧ Aside0 (wc.heap[gb124]? = some (.cells #[.int .i64 0, .int .i64 0, .int .i64 0] 24 (0, 0))) ∧ Aside0 (Below w.heap.size w wc))
  case first =>
    have H := HC4.out
    clear HC4
    by_cases c6 : a0 < 1
    · rw [if_pos c6] at H
      have c6b0 : decide (a0 < 1) = true := decide_eq_true c6
      clear c6
      (first | rw [c6b0] | (simp only [i64_w, i32_w]; rw [c6b0]) | skip)
      have H' := Aside0.mk H
      clear H
      go_wp2
      go_meet
      case rel => exact ⟨_, (true), (by first | rfl | (simp; done) | (simp [*]; done)), H', ⟨by first | omega | exact Nat.le_refl _⟩, ⟨by (with_reducible repeat (first | refine blk_drewN ?_ _ | refine blk_drew ?_ | refine blk_alloc ?_ _)); exact BK124.out⟩, ⟨by repeat (first | (with_reducible first | exact HB.out | apply below_alloc | apply pw_below_drewN | apply below_drew1 | refine below_set ?_ GE124.out) | exact HB.out)⟩⟩
    · rw [if_neg c6] at H
      have c6b0 : decide (a0 < 1) = false := decide_eq_false c6
      clear c6
      (first | rw [c6b0] | (simp only [i64_w, i32_w]; rw [c6b0]) | skip)
      by_cases c7 : a0 > 64
      · rw [if_pos c7] at H
        have c7b0 : decide (64 < a0) = true := decide_eq_true c7
        clear c7
        have H' := Aside0.mk H
        clear H
        go_wp2
        go_meet
        case rel => exact ⟨_, (true), (by first | rfl | (simp; done) | (simp [*]; done)), H', ⟨by first | omega | exact Nat.le_refl _⟩, ⟨by (with_reducible repeat (first | refine blk_drewN ?_ _ | refine blk_drew ?_ | refine blk_alloc ?_ _)); exact BK124.out⟩, ⟨by repeat (first | (with_reducible first | exact HB.out | apply below_alloc | apply pw_below_drewN | apply below_drew1 | refine below_set ?_ GE124.out) | exact HB.out)⟩⟩
      · rw [if_neg c7] at H
        have c7b0 : decide (64 < a0) = false := decide_eq_false c7
        clear c7
        by_cases c8 : a1 < 0
        · rw [if_pos c8] at H
          have c8b0 : decide (a1 < 0) = true := decide_eq_true c8
          clear c8
          have H' := Aside0.mk H
          clear H
          go_wp2
          go_meet
          case rel => exact ⟨_, (true), (by first | rfl | (simp; done) | (simp [*]; done)), H', ⟨by first | omega | exact Nat.le_refl _⟩, ⟨by (with_reducible repeat (first | refine blk_drewN ?_ _ | refine blk_drew ?_ | refine blk_alloc ?_ _)); exact BK124.out⟩, ⟨by repeat (first | (with_reducible first | exact HB.out | apply below_alloc | apply pw_below_drewN | apply below_drew1 | refine below_set ?_ GE124.out) | exact HB.out)⟩⟩
        · rw [if_neg c8] at H
          have c8b0 : decide (a1 < 0) = false := decide_eq_false c8
          clear c8
          by_cases c9 : a1 > a0
          · rw [if_pos c9] at H
            have c9b0 : decide (a0 < a1) = true := decide_eq_true c9
            clear c9
            have H' := Aside0.mk H
            clear H
            go_wp2
            go_meet
            case rel => exact ⟨_, (true), (by first | rfl | (simp; done) | (simp [*]; done)), H', ⟨by first | omega | exact Nat.le_refl _⟩, ⟨by (with_reducible repeat (first | refine blk_drewN ?_ _ | refine blk_drew ?_ | refine blk_alloc ?_ _)); exact BK124.out⟩, ⟨by repeat (first | (with_reducible first | exact HB.out | apply below_alloc | apply pw_below_drewN | apply below_drew1 | refine below_set ?_ GE124.out) | exact HB.out)⟩⟩
          · rw [if_neg c9] at H
            have c9b0 : decide (a0 < a1) = false := decide_eq_false c9
            clear c9
            by_cases c10 : a2 < 0
            · rw [if_pos c10] at H
              have c10b0 : decide (a2 < 0) = true := decide_eq_true c10
              clear c10
              have H' := Aside0.mk H
              clear H
              go_wp2
              go_meet
              case rel => exact ⟨_, (true), (by first | rfl | (simp; done) | (simp [*]; done)), H', ⟨by first | omega | exact Nat.le_refl _⟩, ⟨by (with_reducible repeat (first | refine blk_drewN ?_ _ | refine blk_drew ?_ | refine blk_alloc ?_ _)); exact BK124.out⟩, ⟨by repeat (first | (with_reducible first | exact HB.out | apply below_alloc | apply pw_below_drewN | apply below_drew1 | refine below_set ?_ GE124.out) | exact HB.out)⟩⟩
            · rw [if_neg c10] at H
              have c10b0 : decide (a2 < 0) = false := decide_eq_false c10
              clear c10
              have H' := Aside0.mk H
              clear H
              go_wp2
              go_meet
              case rel => exact ⟨_, (decide (a2 > a0)), (by first | rfl | (simp; done) | (simp [*]; done)), H', ⟨by first | omega | exact Nat.le_refl _⟩, ⟨by (with_reducible repeat (first | refine blk_drewN ?_ _ | refine blk_drew ?_ | refine blk_alloc ?_ _)); exact BK124.out⟩, ⟨by repeat (first | (with_reducible first | exact HB.out | apply below_alloc | apply pw_below_drewN | apply below_drew1 | refine below_set ?_ GE124.out) | exact HB.out)⟩⟩
  case rest =>
    clear HC4
    try clear c1
    try clear c2
    try clear p2
    try clear c6
    try clear c6b0
    try clear c7
    try clear c7b0
    try clear c8
    try clear c8b0
    try clear c9
    try clear c9b0
    try clear c10
    try clear c10b0
    obtain ⟨kq, x35_3, rfl, HA, HJ3, BK124, HB⟩ := hcut
    cases kq with
    | zero => exact absurd HA.out (by simp [codewrightref41_Params.j0])
    | succ kj3 =>
      have H := HA.out
      clear HA
      simp only [codewrightref41_Params.j0] at H
      by_cases c11 : x35_3 = true
      · subst c11
        have H1 : (some (0, 0, 0, 6)) = some (r1, r2, r3, r4) := by rw [if_pos rfl] at H; exact H
        clear H
        have H := H1
        clear H1
        simp only [Option.some.injEq, Prod.mk.injEq] at H
        obtain ⟨rfl, rfl, rfl, rfl⟩ := H
        have hcz12_0 : wc.cell? ⟨gb124, 0, none⟩ = some (.int .i64 0) := (blk_cell BK124.out 0).trans rfl
        have hcz12_1 : wc.cell? ⟨gb124, 1, none⟩ = some (.int .i64 0) := (blk_cell BK124.out 1).trans rfl
        have hcz12_2 : wc.cell? ⟨gb124, 2, none⟩ = some (.int .i64 0) := (blk_cell BK124.out 2).trans rfl
        have hfz12_0 := blk_frozen BK124.out 0
        have hfz12_1 := blk_frozen BK124.out 1
        have hfz12_2 := blk_frozen BK124.out 2
        go_wp2
        refine bodyPost_ret (results_ct rfl _ _ gb124 24 #[.int .i64 0, .int .i64 0, .int .i64 0] (0, 0) _ rfl (by (with_reducible repeat (first | refine blk_drewN ?_ _ | refine blk_drew ?_ | refine blk_alloc ?_ _)); refine blk_put (cs := #[.int .i64 0, .int .i64 0, .int .i64 0]) ?_ 2 _ rfl; (with_reducible repeat (first | refine blk_drewN ?_ _ | refine blk_drew ?_ | refine blk_alloc ?_ _)); refine blk_put (cs := #[.int .i64 0, .int .i64 0, .int .i64 0]) ?_ 1 _ rfl; (with_reducible repeat (first | refine blk_drewN ?_ _ | refine blk_drew ?_ | refine blk_alloc ?_ _)); refine blk_put (cs := #[.int .i64 0, .int .i64 0, .int .i64 0]) ?_ 0 _ rfl; (with_reducible repeat (first | refine blk_drewN ?_ _ | refine blk_drew ?_ | refine blk_alloc ?_ _)); exact BK124.out) Try.underlying24 rfl (by kernel_rfl)) rfl ?_
        exact ⟨by first | rfl | (simp [errW_none, errW_some] <;> rfl) | (simp [*, errW_none, errW_some] <;> rfl), by repeat (first | (with_reducible first | exact HB.out | apply below_alloc | apply pw_below_drewN | apply below_drew1 | refine below_set ?_ GE124.out) | exact HB.out)⟩
      · replace c11 := Bool.eq_false_iff.mpr c11
        subst c11
        have H1 : ((codewrightref41_Weight.f a1).bind fun t125 => (codewrightref41_Params.l0 kj3 a0 a2 t125 1)) = some (r1, r2, r3, r4) := by rw [if_neg (show ¬ (false = true) by decide)] at H; exact H
        clear H
        have H := H1
        clear H1
        replace H := Option.bind_eq_some_iff.mp H
        obtain ⟨t125, A130, H⟩ := H
        replace H : (codewrightref41_Params.l0 kj3 a0 a2 t125 1) = some (r1, r2, r3, r4) := H
        have A13 := Aside0.mk A130
        clear A130
        have H' := Aside0.mk H
        clear H
        go_wp2_with (first | ((with_reducible refine gate_callee (f := 58) rfl ?_); refine goesL_ (some 38) rfl rfl Try.func58 (by kernel_rfl) rfl #[.int .i64 a1] rfl (by (try simp only [List.map_toArray, List.map_cons, List.map_nil]); first | done | rfl | (simp only [List.length_drop, List.length_take]; rfl)) ?_; (with_reducible refine (codewrightref41_Weight.calls a1 t125 _ A13.out).mono ?_); rintro e w14 ⟨rfl, hb⟩; refine ⟨_, rfl, ?_⟩; have n0_ := Aside0.mk (blk_below (g := gb124) (o := .cells #[.int .i64 0, .int .i64 0, .int .i64 0] 24 (0, 0)) (by (with_reducible repeat (first | refine blk_drewN ?_ _ | refine blk_drew ?_ | refine blk_alloc ?_ _)); exact BK124.out) hb); have n1_ := Aside0.mk (below_step (by repeat (first | (with_reducible first | exact HB.out | apply below_alloc | apply pw_below_drewN | apply below_drew1 | refine below_set ?_ GE124.out) | exact HB.out)) hb); clear BK124; clear HB; have BK124 := n0_; have HB := n1_; clear n0_ n1_; (try clear hb); (try clear hb2); (try clear hk); (try clear hi)))
        go_loopg [9] kj3 (fun kq v9 w' => ∃ (x9_2 : Int) (x125000_2 : Int) (x125001_2 : Int) (x125002_2 : Int), v9 = .int .i64 x9_2 ∧ Aside0 (codewrightref41_Params.l0 kq a0 a2 t125 x9_2 = some (r1, r2, r3, r4)) ∧ Aside0 (kq ≤ kj3) ∧ Aside0 (w'.heap[gb124]? = some (.cells #[.int .i64 x125000_2, .int .i64 x125001_2, .int .i64 x125002_2] 24 (0, 0))) ∧ Aside0 (Below w.heap.size w w'))
        case atStart => exact ⟨(1), (0), (0), (0), (by first | rfl | (simp; done) | (simp [*]; done)), H', ⟨Nat.le_refl _⟩, ⟨by (with_reducible repeat (first | refine blk_drewN ?_ _ | refine blk_drew ?_ | refine blk_alloc ?_ _)); exact BK124.out⟩, ⟨by repeat (first | (with_reducible first | exact HB.out | apply below_alloc | apply pw_below_drewN | apply below_drew1 | refine below_set ?_ GE124.out) | exact HB.out)⟩⟩
        case round =>
          clear H'
          try clear c1
          try clear c2
          try clear p2
          try clear c5
          try clear c6
          try clear c6b0
          try clear c7
          try clear c7b0
          try clear c8
          try clear c8b0
          try clear c9
          try clear c9b0
          try clear c10
          try clear c10b0
          try clear c11
          try clear hcz12_0
          try clear hcz12_1
          try clear hcz12_2
          try clear hfz12_0
          try clear hfz12_1
          try clear hfz12_2
          try clear p2
          obtain ⟨x9_2, x125000_2, x125001_2, x125002_2, rfl, HA, HK2, BK124, HB⟩ := hrel
          cases gk with
          | zero => exact absurd HA.out (by simp [codewrightref41_Params.l0])
          | succ k2 =>
            have H := HA.out
            clear HA
            simp only [codewrightref41_Params.l0] at H
            by_cases c15 : x9_2 ≤ 16
            · rw [if_pos c15] at H
              have c15b0 : decide (x9_2 ≤ 16) = true := decide_eq_true c15
              clear c15
              by_cases c16 : (wrap64 (Int.tdiv (wrap64 ((wrap64 (a0 * x9_2)) * (wrap64 (x9_2 + 1)))) 2)) > 4096
              · rw [if_pos c16] at H
                have c16b0 : decide (4096 < (wrap64 (Int.tdiv (wrap64 ((wrap64 (a0 * x9_2)) * (wrap64 (x9_2 + 1)))) 2))) = true := decide_eq_true c16
                clear c16
                simp only [Option.some.injEq, Prod.mk.injEq] at H
                obtain ⟨rfl, rfl, rfl, rfl⟩ := H
                have hcz17_0 : wr.cell? ⟨gb124, 0, none⟩ = some (.int .i64 x125000_2) := (blk_cell BK124.out 0).trans rfl
                have hcz17_1 : wr.cell? ⟨gb124, 1, none⟩ = some (.int .i64 x125001_2) := (blk_cell BK124.out 1).trans rfl
                have hcz17_2 : wr.cell? ⟨gb124, 2, none⟩ = some (.int .i64 x125002_2) := (blk_cell BK124.out 2).trans rfl
                have hfz17_0 := blk_frozen BK124.out 0
                have hfz17_1 := blk_frozen BK124.out 1
                have hfz17_2 := blk_frozen BK124.out 2
                go_wp2
                refine bodyPost_ret (results_ct rfl _ _ gb124 24 #[.int .i64 0, .int .i64 0, .int .i64 0] (0, 0) _ rfl (by (with_reducible repeat (first | refine blk_drewN ?_ _ | refine blk_drew ?_ | refine blk_alloc ?_ _)); refine blk_put (cs := #[.int .i64 0, .int .i64 0, .int .i64 x125002_2]) ?_ 2 _ rfl; (with_reducible repeat (first | refine blk_drewN ?_ _ | refine blk_drew ?_ | refine blk_alloc ?_ _)); refine blk_put (cs := #[.int .i64 0, .int .i64 x125001_2, .int .i64 x125002_2]) ?_ 1 _ rfl; (with_reducible repeat (first | refine blk_drewN ?_ _ | refine blk_drew ?_ | refine blk_alloc ?_ _)); refine blk_put (cs := #[.int .i64 x125000_2, .int .i64 x125001_2, .int .i64 x125002_2]) ?_ 0 _ rfl; (with_reducible repeat (first | refine blk_drewN ?_ _ | refine blk_drew ?_ | refine blk_alloc ?_ _)); exact BK124.out) Try.underlying24 rfl (by kernel_rfl)) rfl ?_
                exact ⟨by first | rfl | (simp [errW_none, errW_some] <;> rfl) | (simp [*, errW_none, errW_some] <;> rfl), by repeat (first | (with_reducible first | exact HB.out | apply below_alloc | apply pw_below_drewN | apply below_drew1 | refine below_set ?_ GE124.out) | exact HB.out)⟩
              · rw [if_neg c16] at H
                have c16b0 : decide (4096 < (wrap64 (Int.tdiv (wrap64 ((wrap64 (a0 * x9_2)) * (wrap64 (x9_2 + 1)))) 2))) = false := decide_eq_false c16
                clear c16
                have H' := Aside0.mk H
                clear H
                go_wp2
                go_loopg [11] k2 (fun kq v11 w' => ∃ (x11_3 : Int), v11 = .int .i64 x11_3 ∧ Aside0 (codewrightref41_Params.l1 kq a0 a2 t125 x9_2 (wrap64 (Int.tdiv (wrap64 ((wrap64 (a0 * x9_2)) * (wrap64 (x9_2 + 1)))) 2)) x11_3 = some (r1, r2, r3, r4)) ∧ Aside0 (kq ≤ k2) ∧ Aside0 (w'.heap[gb124]? = some (.cells #[.int .i64 x125000_2, .int .i64 x125001_2, .int .i64 x125002_2] 24 (0, 0))) ∧ Aside0 (Below w.heap.size w w'))
                case atStart => exact ⟨(0), (by first | rfl | (simp; done) | (simp [*]; done)), H', ⟨Nat.le_refl _⟩, ⟨by (with_reducible repeat (first | refine blk_drewN ?_ _ | refine blk_drew ?_ | refine blk_alloc ?_ _)); exact BK124.out⟩, ⟨by repeat (first | (with_reducible first | exact HB.out | apply below_alloc | apply pw_below_drewN | apply below_drew1 | refine below_set ?_ GE124.out) | exact HB.out)⟩⟩
                case round =>
                  clear H'
                  try clear c1
                  try clear c2
                  try clear p2
                  try clear c5
                  try clear c6
                  try clear c6b0
                  try clear p6
                  try clear c7
                  try clear c7b0
                  try clear c8
                  try clear c8b0
                  try clear c9
                  try clear c9b0
                  try clear c10
                  try clear c10b0
                  try clear c11
                  try clear c15
                  try clear c15b0
                  try clear c16
                  try clear c16b0
                  try clear hcz12_0
                  try clear hcz12_1
                  try clear hcz12_2
                  try clear hcz17_0
                  try clear hcz17_1
                  try clear hcz17_2
                  try clear hfz12_0
                  try clear hfz12_1
                  try clear hfz12_2
                  try clear hfz17_0
                  try clear hfz17_1
                  try clear hfz17_2
                  try clear p2
                  obtain ⟨x11_3, rfl, HA, HK3, BK124, HB⟩ := hrel
                  cases gk with
                  | zero => exact absurd HA.out (by simp [codewrightref41_Params.l1])
                  | succ k3 =>
                    have H := HA.out
                    clear HA
                    simp only [codewrightref41_Params.l1] at H
                    by_cases c18 : t125 = 0
                    · rw [if_pos c18] at H
                      exact absurd H (by simp)
                    · rw [if_neg c18] at H
                      have c18b0 : (t125 == 0) = false := beq_eq_false_iff_ne.mpr c18
                      have c18b1 : (t125 != 0) = true := bne_iff_ne.mpr c18
                      replace H := Option.bind_eq_some_iff.mp H
                      obtain ⟨t126, A190, H⟩ := H
                      replace H : (if t126 ≤ (wrap64 (Int.tdiv (wrap64 ((wrap64 (a0 * x9_2)) * (wrap64 (x9_2 + 1)))) 2)) then (codewrightref41_Params.l1 k3 a0 a2 t125 x9_2 (wrap64 (Int.tdiv (wrap64 ((wrap64 (a0 * x9_2)) * (wrap64 (x9_2 + 1)))) 2)) (wrap64 (x11_3 + 1))) else (if (wrap64 (Int.tdiv x11_3 t125)) ≤ 64 then (if (wrap64 (x9_2 * (wrap64 (a0 - a2)))) > x11_3 then (some (x9_2, x11_3, wrap64 (Int.tdiv x11_3 t125), 0)) else (codewrightref41_Params.l0 k3 a0 a2 t125 (wrap64 (x9_2 + 1)))) else (codewrightref41_Params.l0 k3 a0 a2 t125 (wrap64 (x9_2 + 1))))) = some (r1, r2, r3, r4) := H
                      have A19 := Aside0.mk A190
                      clear A190
                      by_cases c20 : t126 ≤ (wrap64 (Int.tdiv (wrap64 ((wrap64 (a0 * x9_2)) * (wrap64 (x9_2 + 1)))) 2))
                      · rw [if_pos c20] at H
                        have c20b0 : decide (t126 ≤ (wrap64 (Int.tdiv (wrap64 ((wrap64 (a0 * x9_2)) * (wrap64 (x9_2 + 1)))) 2))) = true := decide_eq_true c20
                        clear c20
                        have H' := Aside0.mk H
                        clear H
                        go_wp2_with (first | ((with_reducible refine gate_callee (f := 65) rfl ?_); refine goesL_ (some 57) rfl rfl Try.func65 (by kernel_rfl) rfl #[.int .i64 t125, .int .i64 (wrap64 (Int.tdiv x11_3 t125)), .int .i64 x11_3] rfl (by (try simp only [List.map_toArray, List.map_cons, List.map_nil]); first | done | rfl | (simp only [List.length_drop, List.length_take]; rfl)) ?_; (with_reducible refine (codewrightref40_Terms.calls k3 t125 (wrap64 (Int.tdiv x11_3 t125)) x11_3 t126 _ A19.out).mono ?_); rintro e w' ⟨rfl, ⟨nd, rfl⟩⟩; refine ⟨_, rfl, ?_⟩))
                        go_roundg k3
                        case measure => have := HJ3.out; have := HK2.out; have := HK3.out; omega
                        case rel => exact ⟨(wrap64 (x11_3 + 1)), (by first | rfl | (simp; done) | (simp [*]; done)), H', ⟨by have := HJ3.out; have := HK2.out; have := HK3.out; omega⟩, ⟨by (with_reducible repeat (first | refine blk_drewN ?_ _ | refine blk_drew ?_ | refine blk_alloc ?_ _)); exact BK124.out⟩, ⟨by repeat (first | (with_reducible first | exact HB.out | apply below_alloc | apply pw_below_drewN | apply below_drew1 | refine below_set ?_ GE124.out) | exact HB.out)⟩⟩
                      · rw [if_neg c20] at H
                        have c20b0 : decide (t126 ≤ (wrap64 (Int.tdiv (wrap64 ((wrap64 (a0 * x9_2)) * (wrap64 (x9_2 + 1)))) 2))) = false := decide_eq_false c20
                        clear c20
                        by_cases c21 : (wrap64 (Int.tdiv x11_3 t125)) ≤ 64
                        · rw [if_pos c21] at H
                          have c21b0 : decide ((wrap64 (Int.tdiv x11_3 t125)) ≤ 64) = true := decide_eq_true c21
                          clear c21
                          by_cases c22 : (wrap64 (x9_2 * (wrap64 (a0 - a2)))) > x11_3
                          · rw [if_pos c22] at H
                            have c22b0 : decide (x11_3 < (wrap64 (x9_2 * (wrap64 (a0 - a2))))) = true := decide_eq_true c22
                            clear c22
                            simp only [Option.some.injEq, Prod.mk.injEq] at H
                            obtain ⟨rfl, rfl, rfl, rfl⟩ := H
                            go_wp2_with (first | ((with_reducible refine gate_callee (f := 65) rfl ?_); refine goesL_ (some 57) rfl rfl Try.func65 (by kernel_rfl) rfl #[.int .i64 t125, .int .i64 (wrap64 (Int.tdiv x11_3 t125)), .int .i64 x11_3] rfl (by (try simp only [List.map_toArray, List.map_cons, List.map_nil]); first | done | rfl | (simp only [List.length_drop, List.length_take]; rfl)) ?_; (with_reducible refine (codewrightref40_Terms.calls k3 t125 (wrap64 (Int.tdiv x11_3 t125)) x11_3 t126 _ A19.out).mono ?_); rintro e w' ⟨rfl, ⟨nd, rfl⟩⟩; refine ⟨_, rfl, ?_⟩; (try (rw [drewN_self wr]; generalize hq_ : World.drewN wr _ = wr; have n0_ : Aside0 (wr.heap[gb124]? = some (.cells #[.int .i64 x125000_2, .int .i64 x125001_2, .int .i64 x125002_2] 24 (0, 0))) := ⟨by rw [← hq_]; exact (by (with_reducible repeat (first | refine blk_drewN ?_ _ | refine blk_drew ?_ | refine blk_alloc ?_ _)); exact BK124.out)⟩; have n1_ : Aside0 (Below w.heap.size w wr) := ⟨by rw [← hq_]; exact (by repeat (first | (with_reducible first | exact HB.out | apply below_alloc | apply pw_below_drewN | apply below_drew1 | refine below_set ?_ GE124.out) | exact HB.out))⟩; clear BK124 HB hq_; have BK124 := n0_; have HB := n1_; clear n0_ n1_)); have hcz23_0 : wr.cell? ⟨gb124, 0, none⟩ = some (.int .i64 x125000_2) := (blk_cell BK124.out 0).trans rfl; have hcz23_1 : wr.cell? ⟨gb124, 1, none⟩ = some (.int .i64 x125001_2) := (blk_cell BK124.out 1).trans rfl; have hcz23_2 : wr.cell? ⟨gb124, 2, none⟩ = some (.int .i64 x125002_2) := (blk_cell BK124.out 2).trans rfl; have hfz23_0 := blk_frozen BK124.out 0; have hfz23_1 := blk_frozen BK124.out 1; have hfz23_2 := blk_frozen BK124.out 2))
                            refine bodyPost_ret (results_ct rfl _ _ gb124 24 #[.int .i64 x9_2, .int .i64 x11_3, .int .i64 (wrap64 (Int.tdiv x11_3 t125))] (0, 0) _ rfl (by (with_reducible repeat (first | refine blk_drewN ?_ _ | refine blk_drew ?_ | refine blk_alloc ?_ _)); refine blk_put (cs := #[.int .i64 x9_2, .int .i64 x11_3, .int .i64 x125002_2]) ?_ 2 _ rfl; (with_reducible repeat (first | refine blk_drewN ?_ _ | refine blk_drew ?_ | refine blk_alloc ?_ _)); refine blk_put (cs := #[.int .i64 x9_2, .int .i64 x125001_2, .int .i64 x125002_2]) ?_ 1 _ rfl; (with_reducible repeat (first | refine blk_drewN ?_ _ | refine blk_drew ?_ | refine blk_alloc ?_ _)); refine blk_put (cs := #[.int .i64 x125000_2, .int .i64 x125001_2, .int .i64 x125002_2]) ?_ 0 _ rfl; (with_reducible repeat (first | refine blk_drewN ?_ _ | refine blk_drew ?_ | refine blk_alloc ?_ _)); exact BK124.out) Try.underlying24 rfl (by kernel_rfl)) rfl ?_
                            exact ⟨by first | rfl | (simp [errW_none, errW_some] <;> rfl) | (simp [*, errW_none, errW_some] <;> rfl), by repeat (first | (with_reducible first | exact HB.out | apply below_alloc | apply pw_below_drewN | apply below_drew1 | refine below_set ?_ GE124.out) | exact HB.out)⟩
                          · rw [if_neg c22] at H
                            have c22b0 : decide (x11_3 < (wrap64 (x9_2 * (wrap64 (a0 - a2))))) = false := decide_eq_false c22
                            clear c22
                            have H' := Aside0.mk H
                            clear H
                            go_wp2_with (first | ((with_reducible refine gate_callee (f := 65) rfl ?_); refine goesL_ (some 57) rfl rfl Try.func65 (by kernel_rfl) rfl #[.int .i64 t125, .int .i64 (wrap64 (Int.tdiv x11_3 t125)), .int .i64 x11_3] rfl (by (try simp only [List.map_toArray, List.map_cons, List.map_nil]); first | done | rfl | (simp only [List.length_drop, List.length_take]; rfl)) ?_; (with_reducible refine (codewrightref40_Terms.calls k3 t125 (wrap64 (Int.tdiv x11_3 t125)) x11_3 t126 _ A19.out).mono ?_); rintro e w' ⟨rfl, ⟨nd, rfl⟩⟩; refine ⟨_, rfl, ?_⟩))
                            go_roundg k3
                            case measure => have := HJ3.out; have := HK2.out; have := HK3.out; omega
                            case rel => exact ⟨(wrap64 (x9_2 + 1)), (x125000_2), (x125001_2), (x125002_2), (by first | rfl | (simp; done) | (simp [*]; done)), H', ⟨by have := HJ3.out; have := HK2.out; have := HK3.out; omega⟩, ⟨by (with_reducible repeat (first | refine blk_drewN ?_ _ | refine blk_drew ?_ | refine blk_alloc ?_ _)); exact BK124.out⟩, ⟨by repeat (first | (with_reducible first | exact HB.out | apply below_alloc | apply pw_below_drewN | apply below_drew1 | refine below_set ?_ GE124.out) | exact HB.out)⟩⟩
                        · rw [if_neg c21] at H
                          have c21b0 : decide ((wrap64 (Int.tdiv x11_3 t125)) ≤ 64) = false := decide_eq_false c21
                          clear c21
                          have H' := Aside0.mk H
                          clear H
                          go_wp2_with (first | ((with_reducible refine gate_callee (f := 65) rfl ?_); refine goesL_ (some 57) rfl rfl Try.func65 (by kernel_rfl) rfl #[.int .i64 t125, .int .i64 (wrap64 (Int.tdiv x11_3 t125)), .int .i64 x11_3] rfl (by (try simp only [List.map_toArray, List.map_cons, List.map_nil]); first | done | rfl | (simp only [List.length_drop, List.length_take]; rfl)) ?_; (with_reducible refine (codewrightref40_Terms.calls k3 t125 (wrap64 (Int.tdiv x11_3 t125)) x11_3 t126 _ A19.out).mono ?_); rintro e w' ⟨rfl, ⟨nd, rfl⟩⟩; refine ⟨_, rfl, ?_⟩))
                          go_roundg k3
                          case measure => have := HJ3.out; have := HK2.out; have := HK3.out; omega
                          case rel => exact ⟨(wrap64 (x9_2 + 1)), (x125000_2), (x125001_2), (x125002_2), (by first | rfl | (simp; done) | (simp [*]; done)), H', ⟨by have := HJ3.out; have := HK2.out; have := HK3.out; omega⟩, ⟨by (with_reducible repeat (first | refine blk_drewN ?_ _ | refine blk_drew ?_ | refine blk_alloc ?_ _)); exact BK124.out⟩, ⟨by repeat (first | (with_reducible first | exact HB.out | apply below_alloc | apply pw_below_drewN | apply below_drew1 | refine below_set ?_ GE124.out) | exact HB.out)⟩⟩
            · rw [if_neg c15] at H
              have c15b0 : decide (x9_2 ≤ 16) = false := decide_eq_false c15
              clear c15
              simp only [Option.some.injEq, Prod.mk.injEq] at H
              obtain ⟨rfl, rfl, rfl, rfl⟩ := H
              have hcz24_0 : wr.cell? ⟨gb124, 0, none⟩ = some (.int .i64 x125000_2) := (blk_cell BK124.out 0).trans rfl
              have hcz24_1 : wr.cell? ⟨gb124, 1, none⟩ = some (.int .i64 x125001_2) := (blk_cell BK124.out 1).trans rfl
              have hcz24_2 : wr.cell? ⟨gb124, 2, none⟩ = some (.int .i64 x125002_2) := (blk_cell BK124.out 2).trans rfl
              have hfz24_0 := blk_frozen BK124.out 0
              have hfz24_1 := blk_frozen BK124.out 1
              have hfz24_2 := blk_frozen BK124.out 2
              go_wp2
              refine bodyPost_ret (results_ct rfl _ _ gb124 24 #[.int .i64 0, .int .i64 0, .int .i64 0] (0, 0) _ rfl (by (with_reducible repeat (first | refine blk_drewN ?_ _ | refine blk_drew ?_ | refine blk_alloc ?_ _)); refine blk_put (cs := #[.int .i64 0, .int .i64 0, .int .i64 x125002_2]) ?_ 2 _ rfl; (with_reducible repeat (first | refine blk_drewN ?_ _ | refine blk_drew ?_ | refine blk_alloc ?_ _)); refine blk_put (cs := #[.int .i64 0, .int .i64 x125001_2, .int .i64 x125002_2]) ?_ 1 _ rfl; (with_reducible repeat (first | refine blk_drewN ?_ _ | refine blk_drew ?_ | refine blk_alloc ?_ _)); refine blk_put (cs := #[.int .i64 x125000_2, .int .i64 x125001_2, .int .i64 x125002_2]) ?_ 0 _ rfl; (with_reducible repeat (first | refine blk_drewN ?_ _ | refine blk_drew ?_ | refine blk_alloc ?_ _)); exact BK124.out) Try.underlying24 rfl (by kernel_rfl)) rfl ?_
              exact ⟨by first | rfl | (simp [errW_none, errW_some] <;> rfl) | (simp [*, errW_none, errW_some] <;> rfl), by repeat (first | (with_reducible first | exact HB.out | apply below_alloc | apply pw_below_drewN | apply below_drew1 | refine below_set ?_ GE124.out) | exact HB.out)⟩

/-! ### codewrightlaw41_ListdecodeLimit: function 4 -/
mutual
def codewrightlaw41_ListdecodeLimit.j0 : Nat → Int → Int → Int → Int → Int → Bool → Option (Bool)
  | 0, _, _, _, _, _, _ => none
  | k + 1, x0, x1, x2, x7, x8, x33 => if x33 = true then (if x8 = 6 then (some (x7 == 0)) else (some false)) else (if x2 < 0 then (codewrightlaw41_ListdecodeLimit.j1 k x0 x1 x2 x7 x8 true) else (codewrightlaw41_ListdecodeLimit.j1 k x0 x1 x2 x7 x8 (decide (x2 > x0))))
def codewrightlaw41_ListdecodeLimit.j1 : Nat → Int → Int → Int → Int → Int → Bool → Option (Bool)
  | 0, _, _, _, _, _, _ => none
  | k + 1, x0, x1, x2, x7, x8, x46 => if x46 = true then (some (x8 != 6)) else ((codewrightref41_Params.f k x0 x1 x2).bind fun bt130 => (if x8 = 0 then (if x7 ≥ 0 then (if x7 ≤ x0 then (some ((bt130.2.2.2 == 0) == (decide (x2 ≤ x7)))) else (some false)) else (some false)) else (if x8 = 11 then (if x7 = 0 then (some (bt130.2.2.2 == 11)) else (some false)) else (some false))))
end
def codewrightlaw41_ListdecodeLimit.f (k : Nat) (a0 : Int) (a1 : Int) (a2 : Int) : Option (Bool) := (codewrightlaw41_alive.f k).bind fun t127 => (if t127 = true then ((listdecode_Limit.f k a0 a1).bind fun bt128 => (if a0 < 1 then (codewrightlaw41_ListdecodeLimit.j0 k a0 a1 a2 bt128.1 bt128.2 true) else (if a0 > 64 then (codewrightlaw41_ListdecodeLimit.j0 k a0 a1 a2 bt128.1 bt128.2 true) else (if a1 < 0 then (codewrightlaw41_ListdecodeLimit.j0 k a0 a1 a2 bt128.1 bt128.2 true) else (codewrightlaw41_ListdecodeLimit.j0 k a0 a1 a2 bt128.1 bt128.2 (decide (a1 > a0))))))) else (some false))
theorem codewrightlaw41_ListdecodeLimit.mono_l : ∀ k, (∀ y0 y1 y2 y3 y4 y5, LeO (codewrightlaw41_ListdecodeLimit.j0 k y0 y1 y2 y3 y4 y5) (codewrightlaw41_ListdecodeLimit.j0 (k + 1) y0 y1 y2 y3 y4 y5)) ∧ (∀ y0 y1 y2 y3 y4 y5, LeO (codewrightlaw41_ListdecodeLimit.j1 k y0 y1 y2 y3 y4 y5) (codewrightlaw41_ListdecodeLimit.j1 (k + 1) y0 y1 y2 y3 y4 y5))
  | 0 => ⟨fun _ _ _ _ _ _ r h => by simp [codewrightlaw41_ListdecodeLimit.j0] at h, fun _ _ _ _ _ _ r h => by simp [codewrightlaw41_ListdecodeLimit.j1] at h⟩
  | k + 1 => by
    obtain ⟨ih0, ih1⟩ := codewrightlaw41_ListdecodeLimit.mono_l k
    refine ⟨?_, ?_⟩
    · intro y0 y1 y2 y3 y4 y5
      unfold codewrightlaw41_ListdecodeLimit.j0
      repeat' first
      | (with_reducible exact ih0 _ _ _ _ _ _)
      | (with_reducible exact ih1 _ _ _ _ _ _)
      | (with_reducible exact codewrightlaw41_alive.mono _)
      | (with_reducible exact codewrightref41_Params.mono _ _ _ _)
      | (with_reducible exact listdecode_Limit.mono _ _ _)
      | (with_reducible exact LeO.refl _)
      | (with_reducible exact LeO.none _)
      | (with_reducible refine LeO.ite ?_ ?_)
      | (with_reducible refine LeO.bind ?_ (fun _ => ?_))
      | exact ih0 _ _ _ _ _ _
      | exact ih1 _ _ _ _ _ _
      | exact codewrightlaw41_alive.mono _
      | exact codewrightref41_Params.mono _ _ _ _
      | exact listdecode_Limit.mono _ _ _
      | exact LeO.none _
      | refine LeO.ite ?_ ?_
      | refine LeO.bind ?_ (fun _ => ?_)
    · intro y0 y1 y2 y3 y4 y5
      unfold codewrightlaw41_ListdecodeLimit.j1
      repeat' first
      | (with_reducible exact ih0 _ _ _ _ _ _)
      | (with_reducible exact ih1 _ _ _ _ _ _)
      | (with_reducible exact codewrightlaw41_alive.mono _)
      | (with_reducible exact codewrightref41_Params.mono _ _ _ _)
      | (with_reducible exact listdecode_Limit.mono _ _ _)
      | (with_reducible exact LeO.refl _)
      | (with_reducible exact LeO.none _)
      | (with_reducible refine LeO.ite ?_ ?_)
      | (with_reducible refine LeO.bind ?_ (fun _ => ?_))
      | exact ih0 _ _ _ _ _ _
      | exact ih1 _ _ _ _ _ _
      | exact codewrightlaw41_alive.mono _
      | exact codewrightref41_Params.mono _ _ _ _
      | exact listdecode_Limit.mono _ _ _
      | exact LeO.none _
      | refine LeO.ite ?_ ?_
      | refine LeO.bind ?_ (fun _ => ?_)
theorem codewrightlaw41_ListdecodeLimit.mono : ∀ a0 a1 a2 k, LeO (codewrightlaw41_ListdecodeLimit.f k a0 a1 a2) (codewrightlaw41_ListdecodeLimit.f (k + 1) a0 a1 a2) := by
  intro a0 a1 a2 k
  obtain ⟨ih0, ih1⟩ := codewrightlaw41_ListdecodeLimit.mono_l k
  unfold codewrightlaw41_ListdecodeLimit.f
  repeat' first
      | (with_reducible exact ih0 _ _ _ _ _ _)
      | (with_reducible exact ih1 _ _ _ _ _ _)
      | (with_reducible exact codewrightlaw41_alive.mono _)
      | (with_reducible exact codewrightref41_Params.mono _ _ _ _)
      | (with_reducible exact listdecode_Limit.mono _ _ _)
      | (with_reducible exact LeO.refl _)
      | (with_reducible exact LeO.none _)
      | (with_reducible refine LeO.ite ?_ ?_)
      | (with_reducible refine LeO.bind ?_ (fun _ => ?_))
      | exact ih0 _ _ _ _ _ _
      | exact ih1 _ _ _ _ _ _
      | exact codewrightlaw41_alive.mono _
      | exact codewrightref41_Params.mono _ _ _ _
      | exact listdecode_Limit.mono _ _ _
      | exact LeO.none _
      | refine LeO.ite ?_ ?_
      | refine LeO.bind ?_ (fun _ => ?_)
set_option maxHeartbeats 8000000 in
set_option maxRecDepth 100000 in
theorem codewrightlaw41_ListdecodeLimit.calls (k : Nat) (a0 : Int) (a1 : Int) (a2 : Int) (r : Bool) (w : World) (h : codewrightlaw41_ListdecodeLimit.f k a0 a1 a2 = some r) :
    Calls Try.prog 4 #[.int .i64 a0, .int .i64 a1, .int .i64 a2] w fun e w' => e = .returned (.bool r) ∧ Below w.heap.size w w' := by
  have hu24 := Try.underlying24
  have HB := Aside0.mk (Below.refl w.heap.size w)
  have H : ((codewrightlaw41_alive.f k).bind fun t127 => (if t127 = true then ((listdecode_Limit.f k a0 a1).bind fun bt128 => (if a0 < 1 then (codewrightlaw41_ListdecodeLimit.j0 k a0 a1 a2 bt128.1 bt128.2 true) else (if a0 > 64 then (codewrightlaw41_ListdecodeLimit.j0 k a0 a1 a2 bt128.1 bt128.2 true) else (if a1 < 0 then (codewrightlaw41_ListdecodeLimit.j0 k a0 a1 a2 bt128.1 bt128.2 true) else (codewrightlaw41_ListdecodeLimit.j0 k a0 a1 a2 bt128.1 bt128.2 (decide (a1 > a0))))))) else (some false))) = some r := h
  clear h
  replace H := Option.bind_eq_some_iff.mp H
  obtain ⟨t127, A40, H⟩ := H
  replace H : (if t127 = true then ((listdecode_Limit.f k a0 a1).bind fun bt128 => (if a0 < 1 then (codewrightlaw41_ListdecodeLimit.j0 k a0 a1 a2 bt128.1 bt128.2 true) else (if a0 > 64 then (codewrightlaw41_ListdecodeLimit.j0 k a0 a1 a2 bt128.1 bt128.2 true) else (if a1 < 0 then (codewrightlaw41_ListdecodeLimit.j0 k a0 a1 a2 bt128.1 bt128.2 true) else (codewrightlaw41_ListdecodeLimit.j0 k a0 a1 a2 bt128.1 bt128.2 (decide (a1 > a0))))))) else (some false)) = some r := H
  have A4 := Aside0.mk A40
  clear A40
  by_cases c5 : t127 = true
  · subst c5
    have H1 : ((listdecode_Limit.f k a0 a1).bind fun bt128 => (if a0 < 1 then (codewrightlaw41_ListdecodeLimit.j0 k a0 a1 a2 bt128.1 bt128.2 true) else (if a0 > 64 then (codewrightlaw41_ListdecodeLimit.j0 k a0 a1 a2 bt128.1 bt128.2 true) else (if a1 < 0 then (codewrightlaw41_ListdecodeLimit.j0 k a0 a1 a2 bt128.1 bt128.2 true) else (codewrightlaw41_ListdecodeLimit.j0 k a0 a1 a2 bt128.1 bt128.2 (decide (a1 > a0))))))) = some r := by rw [if_pos rfl] at H; exact H
    clear H
    have H := H1
    clear H1
    replace H := Option.bind_eq_some_iff.mp H
    obtain ⟨⟨t128, t129⟩, A60, H⟩ := H
    replace H : (if a0 < 1 then (codewrightlaw41_ListdecodeLimit.j0 k a0 a1 a2 t128 t129 true) else (if a0 > 64 then (codewrightlaw41_ListdecodeLimit.j0 k a0 a1 a2 t128 t129 true) else (if a1 < 0 then (codewrightlaw41_ListdecodeLimit.j0 k a0 a1 a2 t128 t129 true) else (codewrightlaw41_ListdecodeLimit.j0 k a0 a1 a2 t128 t129 (decide (a1 > a0)))))) = some r := H
    have A6 := Aside0.mk A60
    clear A60
    have HC7 := Aside0.mk H
    clear H
    go_enter Try.func4, Try.ntmps4
    go_upto_region 4 with (first | ((with_reducible refine gate_callee (f := 19) rfl ?_); refine goesL_ (some 11) rfl rfl Try.func19 (by kernel_rfl) rfl #[] rfl (by (try simp only [List.map_toArray, List.map_cons, List.map_nil]); first | done | rfl | (simp only [List.length_drop, List.length_take]; rfl)) ?_; (with_reducible refine (codewrightlaw41_alive.calls k  true _ A4.out).mono ?_); rintro e w8 ⟨rfl, hb⟩; refine ⟨_, rfl, ?_⟩; have n0_ := Aside0.mk (below_step (by repeat (first | (with_reducible first | exact HB.out | apply below_alloc | apply pw_below_drewN | apply below_drew1) | exact HB.out)) hb); clear HB; have HB := n0_; clear n0_; (try clear hb); (try clear hb2); (try clear hk); (try clear hi)) | ((with_reducible refine gate_callee (f := 22) rfl ?_); refine goesL_ (some 16) rfl rfl Try.func22 (by kernel_rfl) rfl #[.int .i64 a0, .int .i64 a1] rfl (by (try simp only [List.map_toArray, List.map_cons, List.map_nil]); first | done | rfl | (simp only [List.length_drop, List.length_take]; rfl)) ?_; (with_reducible refine (listdecode_Limit.calls k a0 a1 t128 t129 _ A6.out).mono ?_); rintro e w9 ⟨rfl, hb⟩; refine ⟨_, rfl, ?_⟩; have n0_ := Aside0.mk (below_step (by repeat (first | (with_reducible first | exact HB.out | apply below_alloc | apply pw_below_drewN | apply below_drew1) | exact HB.out)) hb); clear HB; have HB := n0_; clear n0_; (try clear hb); (try clear hb2); (try clear hk); (try clear hi)))
    (try simp only [Act.put, List.setIfInBounds_toArray, List.set_cons_zero, List.set_cons_succ])
    go_cut [33] (fun v33 wc => ∃ (kq : Nat) (x33_6 : Bool), v33 = .bool x33_6 ∧ Aside0 (codewrightlaw41_ListdecodeLimit.j0 kq a0 a1 a2 t128 t129 x33_6 = some r) ∧ Aside0 (kq ≤ k) ∧ Aside0 (Below w.heap.size w wc))
    case first =>
      have H := HC7.out
      clear HC7
      by_cases c10 : a0 < 1
      · rw [if_pos c10] at H
        have c10b0 : decide (a0 < 1) = true := decide_eq_true c10
        clear c10
        (first | rw [c10b0] | (simp only [i64_w, i32_w]; rw [c10b0]) | skip)
        have H' := Aside0.mk H
        clear H
        go_wp2
        go_meet
        case rel => exact ⟨_, (true), (by first | rfl | (simp; done) | (simp [*]; done)), H', ⟨by first | omega | exact Nat.le_refl _⟩, ⟨by repeat (first | (with_reducible first | exact HB.out | apply below_alloc | apply pw_below_drewN | apply below_drew1) | exact HB.out)⟩⟩
      · rw [if_neg c10] at H
        have c10b0 : decide (a0 < 1) = false := decide_eq_false c10
        clear c10
        (first | rw [c10b0] | (simp only [i64_w, i32_w]; rw [c10b0]) | skip)
        by_cases c11 : a0 > 64
        · rw [if_pos c11] at H
          have c11b0 : decide (64 < a0) = true := decide_eq_true c11
          clear c11
          have H' := Aside0.mk H
          clear H
          go_wp2
          go_meet
          case rel => exact ⟨_, (true), (by first | rfl | (simp; done) | (simp [*]; done)), H', ⟨by first | omega | exact Nat.le_refl _⟩, ⟨by repeat (first | (with_reducible first | exact HB.out | apply below_alloc | apply pw_below_drewN | apply below_drew1) | exact HB.out)⟩⟩
        · rw [if_neg c11] at H
          have c11b0 : decide (64 < a0) = false := decide_eq_false c11
          clear c11
          by_cases c12 : a1 < 0
          · rw [if_pos c12] at H
            have c12b0 : decide (a1 < 0) = true := decide_eq_true c12
            clear c12
            have H' := Aside0.mk H
            clear H
            go_wp2
            go_meet
            case rel => exact ⟨_, (true), (by first | rfl | (simp; done) | (simp [*]; done)), H', ⟨by first | omega | exact Nat.le_refl _⟩, ⟨by repeat (first | (with_reducible first | exact HB.out | apply below_alloc | apply pw_below_drewN | apply below_drew1) | exact HB.out)⟩⟩
          · rw [if_neg c12] at H
            have c12b0 : decide (a1 < 0) = false := decide_eq_false c12
            clear c12
            have H' := Aside0.mk H
            clear H
            go_wp2
            go_meet
            case rel => exact ⟨_, (decide (a1 > a0)), (by first | rfl | (simp; done) | (simp [*]; done)), H', ⟨by first | omega | exact Nat.le_refl _⟩, ⟨by repeat (first | (with_reducible first | exact HB.out | apply below_alloc | apply pw_below_drewN | apply below_drew1) | exact HB.out)⟩⟩
    case rest =>
      clear HC7
      try clear c1
      try clear c2
      try clear p2
      try clear c4
      try clear c5
      try clear c10
      try clear c10b0
      try clear c11
      try clear c11b0
      try clear c12
      try clear c12b0
      obtain ⟨kq, x33_6, rfl, HA, HJ6, HB⟩ := hcut
      cases kq with
      | zero => exact absurd HA.out (by simp [codewrightlaw41_ListdecodeLimit.j0])
      | succ kj6 =>
        have H := HA.out
        clear HA
        simp only [codewrightlaw41_ListdecodeLimit.j0] at H
        by_cases c13 : x33_6 = true
        · subst c13
          have H1 : (if t129 = 6 then (some (t128 == 0)) else (some false)) = some r := by rw [if_pos rfl] at H; exact H
          clear H
          have H := H1
          clear H1
          by_cases c14 : t129 = 6
          · rw [if_pos c14] at H
            have c14b0 : (t129 == 6) = true := beq_iff_eq.mpr c14
            have c14b1 : (t129 != 6) = false := bne_eq_false_iff_eq.mpr c14
            clear c14
            obtain rfl := Option.some.inj H
            go_wp2
            go_ret
            exact ⟨by first | rfl | (simp [errW_none, errW_some] <;> rfl) | (simp [*, errW_none, errW_some] <;> rfl), by repeat (first | (with_reducible first | exact HB.out | apply below_alloc | apply pw_below_drewN | apply below_drew1) | exact HB.out)⟩
          · rw [if_neg c14] at H
            have c14b0 : (t129 == 6) = false := beq_eq_false_iff_ne.mpr c14
            have c14b1 : (t129 != 6) = true := bne_iff_ne.mpr c14
            obtain rfl := Option.some.inj H
            go_wp2
            go_ret
            exact ⟨by first | rfl | (simp [errW_none, errW_some] <;> rfl) | (simp [*, errW_none, errW_some] <;> rfl), by repeat (first | (with_reducible first | exact HB.out | apply below_alloc | apply pw_below_drewN | apply below_drew1) | exact HB.out)⟩
        · replace c13 := Bool.eq_false_iff.mpr c13
          subst c13
          have H1 : (if a2 < 0 then (codewrightlaw41_ListdecodeLimit.j1 kj6 a0 a1 a2 t128 t129 true) else (codewrightlaw41_ListdecodeLimit.j1 kj6 a0 a1 a2 t128 t129 (decide (a2 > a0)))) = some r := by rw [if_neg (show ¬ (false = true) by decide)] at H; exact H
          clear H
          have H := H1
          clear H1
          have HC15 := Aside0.mk H
          clear H
          go_upto_region 6 with (fail)
          go_cut [46] (fun v46 wc => ∃ (kq : Nat) (x46_14 : Bool), v46 = .bool x46_14 ∧ Aside0 (codewrightlaw41_ListdecodeLimit.j1 kq a0 a1 a2 t128 t129 x46_14 = some r) ∧ Aside0 (kq ≤ kj6) ∧ Aside0 (Below w.heap.size w wc))
          case first =>
            have H := HC15.out
            clear HC15
            by_cases c16 : a2 < 0
            · rw [if_pos c16] at H
              have c16b0 : decide (a2 < 0) = true := decide_eq_true c16
              clear c16
              (first | rw [c16b0] | (simp only [i64_w, i32_w]; rw [c16b0]) | skip)
              have H' := Aside0.mk H
              clear H
              go_wp2
              go_meet
              case rel => exact ⟨_, (true), (by first | rfl | (simp; done) | (simp [*]; done)), H', ⟨by have := HJ6.out; first | omega | exact Nat.le_refl _⟩, ⟨by repeat (first | (with_reducible first | exact HB.out | apply below_alloc | apply pw_below_drewN | apply below_drew1) | exact HB.out)⟩⟩
            · rw [if_neg c16] at H
              have c16b0 : decide (a2 < 0) = false := decide_eq_false c16
              clear c16
              (first | rw [c16b0] | (simp only [i64_w, i32_w]; rw [c16b0]) | skip)
              have H' := Aside0.mk H
              clear H
              go_wp2
              go_meet
              case rel => exact ⟨_, (decide (a2 > a0)), (by first | rfl | (simp; done) | (simp [*]; done)), H', ⟨by have := HJ6.out; first | omega | exact Nat.le_refl _⟩, ⟨by repeat (first | (with_reducible first | exact HB.out | apply below_alloc | apply pw_below_drewN | apply below_drew1) | exact HB.out)⟩⟩
          case rest =>
            clear HC15
            try clear c1
            try clear c2
            try clear p2
            try clear c4
            try clear c5
            try clear c10
            try clear c10b0
            try clear c11
            try clear c11b0
            try clear c12
            try clear c12b0
            try clear c13
            try clear c14
            try clear c14b0
            try clear c14b1
            try clear c16
            try clear c16b0
            try clear p2
            obtain ⟨kq, x46_14, rfl, HA, HJ14, HB⟩ := hcut
            cases kq with
            | zero => exact absurd HA.out (by simp [codewrightlaw41_ListdecodeLimit.j1])
            | succ kj14 =>
              have H := HA.out
              clear HA
              simp only [codewrightlaw41_ListdecodeLimit.j1] at H
              by_cases c17 : x46_14 = true
              · subst c17
                have H1 : (some (t129 != 6)) = some r := by rw [if_pos rfl] at H; exact H
                clear H
                have H := H1
                clear H1
                obtain rfl := Option.some.inj H
                go_wp2
                go_ret
                exact ⟨by first | rfl | (simp [errW_none, errW_some] <;> rfl) | (simp [*, errW_none, errW_some] <;> rfl), by repeat (first | (with_reducible first | exact HB.out | apply below_alloc | apply pw_below_drewN | apply below_drew1) | exact HB.out)⟩
              · replace c17 := Bool.eq_false_iff.mpr c17
                subst c17
                have H1 : ((codewrightref41_Params.f kj14 a0 a1 a2).bind fun bt130 => (if t129 = 0 then (if t128 ≥ 0 then (if t128 ≤ a0 then (some ((bt130.2.2.2 == 0) == (decide (a2 ≤ t128)))) else (some false)) else (some false)) else (if t129 = 11 then (if t128 = 0 then (some (bt130.2.2.2 == 11)) else (some false)) else (some false)))) = some r := by rw [if_neg (show ¬ (false = true) by decide)] at H; exact H
                clear H
                have H := H1
                clear H1
                replace H := Option.bind_eq_some_iff.mp H
                obtain ⟨⟨t130, t131, t132, t133⟩, A180, H⟩ := H
                replace H : (if t129 = 0 then (if t128 ≥ 0 then (if t128 ≤ a0 then (some ((t133 == 0) == (decide (a2 ≤ t128)))) else (some false)) else (some false)) else (if t129 = 11 then (if t128 = 0 then (some (t133 == 11)) else (some false)) else (some false))) = some r := H
                have A18 := Aside0.mk A180
                clear A180
                by_cases c19 : t129 = 0
                · rw [if_pos c19] at H
                  have c19b0 : (t129 == 0) = true := beq_iff_eq.mpr c19
                  have c19b1 : (t129 != 0) = false := bne_eq_false_iff_eq.mpr c19
                  clear c19
                  by_cases c20 : t128 ≥ 0
                  · rw [if_pos c20] at H
                    have c20b0 : decide (0 ≤ t128) = true := decide_eq_true c20
                    clear c20
                    by_cases c21 : t128 ≤ a0
                    · rw [if_pos c21] at H
                      have c21b0 : decide (t128 ≤ a0) = true := decide_eq_true c21
                      clear c21
                      obtain rfl := Option.some.inj H
                      go_wp2_with (first | ((with_reducible refine gate_callee (f := 21) rfl ?_); refine goesL_ (some 53) rfl rfl Try.func21 (by kernel_rfl) rfl #[.int .i64 a0, .int .i64 a1, .int .i64 a2] rfl (by (try simp only [List.map_toArray, List.map_cons, List.map_nil]); first | done | rfl | (simp only [List.length_drop, List.length_take]; rfl)) ?_; (with_reducible refine (codewrightref41_Params.calls kj14 a0 a1 a2 t130 t131 t132 t133 _ A18.out).mono ?_); rintro e w22 ⟨rfl, hb⟩; refine ⟨_, rfl, ?_⟩; have n0_ := Aside0.mk (below_step (by repeat (first | (with_reducible first | exact HB.out | apply below_alloc | apply pw_below_drewN | apply below_drew1) | exact HB.out)) hb); clear HB; have HB := n0_; clear n0_; (try clear hb); (try clear hb2); (try clear hk); (try clear hi)) | ((with_reducible refine gate_dst (N := 9) rfl ?_); refine box_event ?hg (N := 9) ?hd (cs := #[.int .i64 0, .int .i64 0, .int .i64 0]) (t := 24) ?hr ?_; (case hd => rfl); (case hg => rfl); (case hr => first | (go_simp; done) | (go_simp; rfl)); intro gb134 hg w23 hbox hb; have n0_ := Aside0.mk (below_step (by repeat (first | (with_reducible first | exact HB.out | apply below_alloc | apply pw_below_drewN | apply below_drew1) | exact HB.out)) hb); have n1_ := Aside0.mk (hbox); have n2_ := Aside0.mk ((by rw [hg]; exact (below_size (by repeat (first | (with_reducible first | exact HB.out | apply below_alloc | apply pw_below_drewN | apply below_drew1) | exact HB.out))) : w.heap.size ≤ gb134)); have n3_ := Aside0.mk ((by rw [hg]; exact (below_size (by repeat (first | (with_reducible first | exact HB.out | apply below_alloc | apply pw_below_drewN | apply below_drew1) | exact HB.out))) : w.heap.size ≤ gb134)); clear HB; have HB := n0_; have BK134 := n1_; have GW134 := n2_; have GE134 := n3_; clear n0_ n1_ n2_ n3_; clear hb hbox hg; have hcz24_0 : w23.cell? ⟨gb134, 0, none⟩ = some (.int .i64 0) := (blk_cell BK134.out 0).trans rfl; have hcz24_1 : w23.cell? ⟨gb134, 1, none⟩ = some (.int .i64 0) := (blk_cell BK134.out 1).trans rfl; have hcz24_2 : w23.cell? ⟨gb134, 2, none⟩ = some (.int .i64 0) := (blk_cell BK134.out 2).trans rfl; have hfz24_0 := blk_frozen BK134.out 0; have hfz24_1 := blk_frozen BK134.out 1; have hfz24_2 := blk_frozen BK134.out 2))
                      go_ret
                      exact ⟨by first | rfl | (simp [errW_none, errW_some] <;> rfl) | (simp [*, errW_none, errW_some] <;> rfl), by repeat (first | (with_reducible first | exact HB.out | apply below_alloc | apply pw_below_drewN | apply below_drew1 | refine below_set ?_ GE134.out) | exact HB.out)⟩
                    · rw [if_neg c21] at H
                      have c21b0 : decide (t128 ≤ a0) = false := decide_eq_false c21
                      clear c21
                      obtain rfl := Option.some.inj H
                      go_wp2_with (first | ((with_reducible refine gate_callee (f := 21) rfl ?_); refine goesL_ (some 53) rfl rfl Try.func21 (by kernel_rfl) rfl #[.int .i64 a0, .int .i64 a1, .int .i64 a2] rfl (by (try simp only [List.map_toArray, List.map_cons, List.map_nil]); first | done | rfl | (simp only [List.length_drop, List.length_take]; rfl)) ?_; (with_reducible refine (codewrightref41_Params.calls kj14 a0 a1 a2 t130 t131 t132 t133 _ A18.out).mono ?_); rintro e w25 ⟨rfl, hb⟩; refine ⟨_, rfl, ?_⟩; have n0_ := Aside0.mk (below_step (by repeat (first | (with_reducible first | exact HB.out | apply below_alloc | apply pw_below_drewN | apply below_drew1) | exact HB.out)) hb); clear HB; have HB := n0_; clear n0_; (try clear hb); (try clear hb2); (try clear hk); (try clear hi)) | ((with_reducible refine gate_dst (N := 9) rfl ?_); refine box_event ?hg (N := 9) ?hd (cs := #[.int .i64 0, .int .i64 0, .int .i64 0]) (t := 24) ?hr ?_; (case hd => rfl); (case hg => rfl); (case hr => first | (go_simp; done) | (go_simp; rfl)); intro gb134 hg w26 hbox hb; have n0_ := Aside0.mk (below_step (by repeat (first | (with_reducible first | exact HB.out | apply below_alloc | apply pw_below_drewN | apply below_drew1) | exact HB.out)) hb); have n1_ := Aside0.mk (hbox); have n2_ := Aside0.mk ((by rw [hg]; exact (below_size (by repeat (first | (with_reducible first | exact HB.out | apply below_alloc | apply pw_below_drewN | apply below_drew1) | exact HB.out))) : w.heap.size ≤ gb134)); have n3_ := Aside0.mk ((by rw [hg]; exact (below_size (by repeat (first | (with_reducible first | exact HB.out | apply below_alloc | apply pw_below_drewN | apply below_drew1) | exact HB.out))) : w.heap.size ≤ gb134)); clear HB; have HB := n0_; have BK134 := n1_; have GW134 := n2_; have GE134 := n3_; clear n0_ n1_ n2_ n3_; clear hb hbox hg; have hcz27_0 : w26.cell? ⟨gb134, 0, none⟩ = some (.int .i64 0) := (blk_cell BK134.out 0).trans rfl; have hcz27_1 : w26.cell? ⟨gb134, 1, none⟩ = some (.int .i64 0) := (blk_cell BK134.out 1).trans rfl; have hcz27_2 : w26.cell? ⟨gb134, 2, none⟩ = some (.int .i64 0) := (blk_cell BK134.out 2).trans rfl; have hfz27_0 := blk_frozen BK134.out 0; have hfz27_1 := blk_frozen BK134.out 1; have hfz27_2 := blk_frozen BK134.out 2))
                      go_ret
                      exact ⟨by first | rfl | (simp [errW_none, errW_some] <;> rfl) | (simp [*, errW_none, errW_some] <;> rfl), by repeat (first | (with_reducible first | exact HB.out | apply below_alloc | apply pw_below_drewN | apply below_drew1 | refine below_set ?_ GE134.out) | exact HB.out)⟩
                  · rw [if_neg c20] at H
                    have c20b0 : decide (0 ≤ t128) = false := decide_eq_false c20
                    clear c20
                    obtain rfl := Option.some.inj H
                    go_wp2_with (first | ((with_reducible refine gate_callee (f := 21) rfl ?_); refine goesL_ (some 53) rfl rfl Try.func21 (by kernel_rfl) rfl #[.int .i64 a0, .int .i64 a1, .int .i64 a2] rfl (by (try simp only [List.map_toArray, List.map_cons, List.map_nil]); first | done | rfl | (simp only [List.length_drop, List.length_take]; rfl)) ?_; (with_reducible refine (codewrightref41_Params.calls kj14 a0 a1 a2 t130 t131 t132 t133 _ A18.out).mono ?_); rintro e w28 ⟨rfl, hb⟩; refine ⟨_, rfl, ?_⟩; have n0_ := Aside0.mk (below_step (by repeat (first | (with_reducible first | exact HB.out | apply below_alloc | apply pw_below_drewN | apply below_drew1) | exact HB.out)) hb); clear HB; have HB := n0_; clear n0_; (try clear hb); (try clear hb2); (try clear hk); (try clear hi)) | ((with_reducible refine gate_dst (N := 9) rfl ?_); refine box_event ?hg (N := 9) ?hd (cs := #[.int .i64 0, .int .i64 0, .int .i64 0]) (t := 24) ?hr ?_; (case hd => rfl); (case hg => rfl); (case hr => first | (go_simp; done) | (go_simp; rfl)); intro gb134 hg w29 hbox hb; have n0_ := Aside0.mk (below_step (by repeat (first | (with_reducible first | exact HB.out | apply below_alloc | apply pw_below_drewN | apply below_drew1) | exact HB.out)) hb); have n1_ := Aside0.mk (hbox); have n2_ := Aside0.mk ((by rw [hg]; exact (below_size (by repeat (first | (with_reducible first | exact HB.out | apply below_alloc | apply pw_below_drewN | apply below_drew1) | exact HB.out))) : w.heap.size ≤ gb134)); have n3_ := Aside0.mk ((by rw [hg]; exact (below_size (by repeat (first | (with_reducible first | exact HB.out | apply below_alloc | apply pw_below_drewN | apply below_drew1) | exact HB.out))) : w.heap.size ≤ gb134)); clear HB; have HB := n0_; have BK134 := n1_; have GW134 := n2_; have GE134 := n3_; clear n0_ n1_ n2_ n3_; clear hb hbox hg; have hcz30_0 : w29.cell? ⟨gb134, 0, none⟩ = some (.int .i64 0) := (blk_cell BK134.out 0).trans rfl; have hcz30_1 : w29.cell? ⟨gb134, 1, none⟩ = some (.int .i64 0) := (blk_cell BK134.out 1).trans rfl; have hcz30_2 : w29.cell? ⟨gb134, 2, none⟩ = some (.int .i64 0) := (blk_cell BK134.out 2).trans rfl; have hfz30_0 := blk_frozen BK134.out 0; have hfz30_1 := blk_frozen BK134.out 1; have hfz30_2 := blk_frozen BK134.out 2))
                    go_ret
                    exact ⟨by first | rfl | (simp [errW_none, errW_some] <;> rfl) | (simp [*, errW_none, errW_some] <;> rfl), by repeat (first | (with_reducible first | exact HB.out | apply below_alloc | apply pw_below_drewN | apply below_drew1 | refine below_set ?_ GE134.out) | exact HB.out)⟩
                · rw [if_neg c19] at H
                  have c19b0 : (t129 == 0) = false := beq_eq_false_iff_ne.mpr c19
                  have c19b1 : (t129 != 0) = true := bne_iff_ne.mpr c19
                  by_cases c31 : t129 = 11
                  · rw [if_pos c31] at H
                    have c31b0 : (t129 == 11) = true := beq_iff_eq.mpr c31
                    have c31b1 : (t129 != 11) = false := bne_eq_false_iff_eq.mpr c31
                    clear c31
                    by_cases c32 : t128 = 0
                    · rw [if_pos c32] at H
                      have c32b0 : (t128 == 0) = true := beq_iff_eq.mpr c32
                      have c32b1 : (t128 != 0) = false := bne_eq_false_iff_eq.mpr c32
                      clear c32
                      obtain rfl := Option.some.inj H
                      go_wp2_with (first | ((with_reducible refine gate_callee (f := 21) rfl ?_); refine goesL_ (some 53) rfl rfl Try.func21 (by kernel_rfl) rfl #[.int .i64 a0, .int .i64 a1, .int .i64 a2] rfl (by (try simp only [List.map_toArray, List.map_cons, List.map_nil]); first | done | rfl | (simp only [List.length_drop, List.length_take]; rfl)) ?_; (with_reducible refine (codewrightref41_Params.calls kj14 a0 a1 a2 t130 t131 t132 t133 _ A18.out).mono ?_); rintro e w33 ⟨rfl, hb⟩; refine ⟨_, rfl, ?_⟩; have n0_ := Aside0.mk (below_step (by repeat (first | (with_reducible first | exact HB.out | apply below_alloc | apply pw_below_drewN | apply below_drew1) | exact HB.out)) hb); clear HB; have HB := n0_; clear n0_; (try clear hb); (try clear hb2); (try clear hk); (try clear hi)) | ((with_reducible refine gate_dst (N := 9) rfl ?_); refine box_event ?hg (N := 9) ?hd (cs := #[.int .i64 0, .int .i64 0, .int .i64 0]) (t := 24) ?hr ?_; (case hd => rfl); (case hg => rfl); (case hr => first | (go_simp; done) | (go_simp; rfl)); intro gb134 hg w34 hbox hb; have n0_ := Aside0.mk (below_step (by repeat (first | (with_reducible first | exact HB.out | apply below_alloc | apply pw_below_drewN | apply below_drew1) | exact HB.out)) hb); have n1_ := Aside0.mk (hbox); have n2_ := Aside0.mk ((by rw [hg]; exact (below_size (by repeat (first | (with_reducible first | exact HB.out | apply below_alloc | apply pw_below_drewN | apply below_drew1) | exact HB.out))) : w.heap.size ≤ gb134)); have n3_ := Aside0.mk ((by rw [hg]; exact (below_size (by repeat (first | (with_reducible first | exact HB.out | apply below_alloc | apply pw_below_drewN | apply below_drew1) | exact HB.out))) : w.heap.size ≤ gb134)); clear HB; have HB := n0_; have BK134 := n1_; have GW134 := n2_; have GE134 := n3_; clear n0_ n1_ n2_ n3_; clear hb hbox hg; have hcz35_0 : w34.cell? ⟨gb134, 0, none⟩ = some (.int .i64 0) := (blk_cell BK134.out 0).trans rfl; have hcz35_1 : w34.cell? ⟨gb134, 1, none⟩ = some (.int .i64 0) := (blk_cell BK134.out 1).trans rfl; have hcz35_2 : w34.cell? ⟨gb134, 2, none⟩ = some (.int .i64 0) := (blk_cell BK134.out 2).trans rfl; have hfz35_0 := blk_frozen BK134.out 0; have hfz35_1 := blk_frozen BK134.out 1; have hfz35_2 := blk_frozen BK134.out 2))
                      go_ret
                      exact ⟨by first | rfl | (simp [errW_none, errW_some] <;> rfl) | (simp [*, errW_none, errW_some] <;> rfl), by repeat (first | (with_reducible first | exact HB.out | apply below_alloc | apply pw_below_drewN | apply below_drew1 | refine below_set ?_ GE134.out) | exact HB.out)⟩
                    · rw [if_neg c32] at H
                      have c32b0 : (t128 == 0) = false := beq_eq_false_iff_ne.mpr c32
                      have c32b1 : (t128 != 0) = true := bne_iff_ne.mpr c32
                      obtain rfl := Option.some.inj H
                      go_wp2_with (first | ((with_reducible refine gate_callee (f := 21) rfl ?_); refine goesL_ (some 53) rfl rfl Try.func21 (by kernel_rfl) rfl #[.int .i64 a0, .int .i64 a1, .int .i64 a2] rfl (by (try simp only [List.map_toArray, List.map_cons, List.map_nil]); first | done | rfl | (simp only [List.length_drop, List.length_take]; rfl)) ?_; (with_reducible refine (codewrightref41_Params.calls kj14 a0 a1 a2 t130 t131 t132 t133 _ A18.out).mono ?_); rintro e w36 ⟨rfl, hb⟩; refine ⟨_, rfl, ?_⟩; have n0_ := Aside0.mk (below_step (by repeat (first | (with_reducible first | exact HB.out | apply below_alloc | apply pw_below_drewN | apply below_drew1) | exact HB.out)) hb); clear HB; have HB := n0_; clear n0_; (try clear hb); (try clear hb2); (try clear hk); (try clear hi)) | ((with_reducible refine gate_dst (N := 9) rfl ?_); refine box_event ?hg (N := 9) ?hd (cs := #[.int .i64 0, .int .i64 0, .int .i64 0]) (t := 24) ?hr ?_; (case hd => rfl); (case hg => rfl); (case hr => first | (go_simp; done) | (go_simp; rfl)); intro gb134 hg w37 hbox hb; have n0_ := Aside0.mk (below_step (by repeat (first | (with_reducible first | exact HB.out | apply below_alloc | apply pw_below_drewN | apply below_drew1) | exact HB.out)) hb); have n1_ := Aside0.mk (hbox); have n2_ := Aside0.mk ((by rw [hg]; exact (below_size (by repeat (first | (with_reducible first | exact HB.out | apply below_alloc | apply pw_below_drewN | apply below_drew1) | exact HB.out))) : w.heap.size ≤ gb134)); have n3_ := Aside0.mk ((by rw [hg]; exact (below_size (by repeat (first | (with_reducible first | exact HB.out | apply below_alloc | apply pw_below_drewN | apply below_drew1) | exact HB.out))) : w.heap.size ≤ gb134)); clear HB; have HB := n0_; have BK134 := n1_; have GW134 := n2_; have GE134 := n3_; clear n0_ n1_ n2_ n3_; clear hb hbox hg; have hcz38_0 : w37.cell? ⟨gb134, 0, none⟩ = some (.int .i64 0) := (blk_cell BK134.out 0).trans rfl; have hcz38_1 : w37.cell? ⟨gb134, 1, none⟩ = some (.int .i64 0) := (blk_cell BK134.out 1).trans rfl; have hcz38_2 : w37.cell? ⟨gb134, 2, none⟩ = some (.int .i64 0) := (blk_cell BK134.out 2).trans rfl; have hfz38_0 := blk_frozen BK134.out 0; have hfz38_1 := blk_frozen BK134.out 1; have hfz38_2 := blk_frozen BK134.out 2))
                      go_ret
                      exact ⟨by first | rfl | (simp [errW_none, errW_some] <;> rfl) | (simp [*, errW_none, errW_some] <;> rfl), by repeat (first | (with_reducible first | exact HB.out | apply below_alloc | apply pw_below_drewN | apply below_drew1 | refine below_set ?_ GE134.out) | exact HB.out)⟩
                  · rw [if_neg c31] at H
                    have c31b0 : (t129 == 11) = false := beq_eq_false_iff_ne.mpr c31
                    have c31b1 : (t129 != 11) = true := bne_iff_ne.mpr c31
                    obtain rfl := Option.some.inj H
                    go_wp2_with (first | ((with_reducible refine gate_callee (f := 21) rfl ?_); refine goesL_ (some 53) rfl rfl Try.func21 (by kernel_rfl) rfl #[.int .i64 a0, .int .i64 a1, .int .i64 a2] rfl (by (try simp only [List.map_toArray, List.map_cons, List.map_nil]); first | done | rfl | (simp only [List.length_drop, List.length_take]; rfl)) ?_; (with_reducible refine (codewrightref41_Params.calls kj14 a0 a1 a2 t130 t131 t132 t133 _ A18.out).mono ?_); rintro e w39 ⟨rfl, hb⟩; refine ⟨_, rfl, ?_⟩; have n0_ := Aside0.mk (below_step (by repeat (first | (with_reducible first | exact HB.out | apply below_alloc | apply pw_below_drewN | apply below_drew1) | exact HB.out)) hb); clear HB; have HB := n0_; clear n0_; (try clear hb); (try clear hb2); (try clear hk); (try clear hi)) | ((with_reducible refine gate_dst (N := 9) rfl ?_); refine box_event ?hg (N := 9) ?hd (cs := #[.int .i64 0, .int .i64 0, .int .i64 0]) (t := 24) ?hr ?_; (case hd => rfl); (case hg => rfl); (case hr => first | (go_simp; done) | (go_simp; rfl)); intro gb134 hg w40 hbox hb; have n0_ := Aside0.mk (below_step (by repeat (first | (with_reducible first | exact HB.out | apply below_alloc | apply pw_below_drewN | apply below_drew1) | exact HB.out)) hb); have n1_ := Aside0.mk (hbox); have n2_ := Aside0.mk ((by rw [hg]; exact (below_size (by repeat (first | (with_reducible first | exact HB.out | apply below_alloc | apply pw_below_drewN | apply below_drew1) | exact HB.out))) : w.heap.size ≤ gb134)); have n3_ := Aside0.mk ((by rw [hg]; exact (below_size (by repeat (first | (with_reducible first | exact HB.out | apply below_alloc | apply pw_below_drewN | apply below_drew1) | exact HB.out))) : w.heap.size ≤ gb134)); clear HB; have HB := n0_; have BK134 := n1_; have GW134 := n2_; have GE134 := n3_; clear n0_ n1_ n2_ n3_; clear hb hbox hg; have hcz41_0 : w40.cell? ⟨gb134, 0, none⟩ = some (.int .i64 0) := (blk_cell BK134.out 0).trans rfl; have hcz41_1 : w40.cell? ⟨gb134, 1, none⟩ = some (.int .i64 0) := (blk_cell BK134.out 1).trans rfl; have hcz41_2 : w40.cell? ⟨gb134, 2, none⟩ = some (.int .i64 0) := (blk_cell BK134.out 2).trans rfl; have hfz41_0 := blk_frozen BK134.out 0; have hfz41_1 := blk_frozen BK134.out 1; have hfz41_2 := blk_frozen BK134.out 2))
                    go_ret
                    exact ⟨by first | rfl | (simp [errW_none, errW_some] <;> rfl) | (simp [*, errW_none, errW_some] <;> rfl), by repeat (first | (with_reducible first | exact HB.out | apply below_alloc | apply pw_below_drewN | apply below_drew1 | refine below_set ?_ GE134.out) | exact HB.out)⟩
  · replace c5 := Bool.eq_false_iff.mpr c5
    subst c5
    have H1 : (some false) = some r := by rw [if_neg (show ¬ (false = true) by decide)] at H; exact H
    clear H
    have H := H1
    clear H1
    obtain rfl := Option.some.inj H
    go_enter Try.func4, Try.ntmps4
    go_wp2_with (first | ((with_reducible refine gate_callee (f := 19) rfl ?_); refine goesL_ (some 11) rfl rfl Try.func19 (by kernel_rfl) rfl #[] rfl (by (try simp only [List.map_toArray, List.map_cons, List.map_nil]); first | done | rfl | (simp only [List.length_drop, List.length_take]; rfl)) ?_; (with_reducible refine (codewrightlaw41_alive.calls k  false _ A4.out).mono ?_); rintro e w42 ⟨rfl, hb⟩; refine ⟨_, rfl, ?_⟩; have n0_ := Aside0.mk (below_step (by repeat (first | (with_reducible first | exact HB.out | apply below_alloc | apply pw_below_drewN | apply below_drew1) | exact HB.out)) hb); clear HB; have HB := n0_; clear n0_; (try clear hb); (try clear hb2); (try clear hk); (try clear hi)))
    go_ret
    exact ⟨by first | rfl | (simp [errW_none, errW_some] <;> rfl) | (simp [*, errW_none, errW_some] <;> rfl), by repeat (first | (with_reducible first | exact HB.out | apply below_alloc | apply pw_below_drewN | apply below_drew1) | exact HB.out)⟩

/-- THE ONE PURE STATEMENT of codewrightlaw41_ListdecodeLimit: yours. -/
def codewrightlaw41_ListdecodeLimit.Pure : Prop := ∀ (a0 : Int) (a1 : Int) (a2 : Int), (Lit.int .i64 a0).wf = true → (Lit.int .i64 a1).wf = true → (Lit.int .i64 a2).wf = true → ∃ k, codewrightlaw41_ListdecodeLimit.f k a0 a1 a2 = some true
theorem codewrightlaw41_ListdecodeLimit.walk (P : codewrightlaw41_ListdecodeLimit.Pure) (a0 : Int) (a1 : Int) (a2 : Int) (w : World) (w0 : (Lit.int .i64 a0).wf = true) (w1 : (Lit.int .i64 a1).wf = true) (w2 : (Lit.int .i64 a2).wf = true) :
    Calls Try.prog 4 #[.int .i64 a0, .int .i64 a1, .int .i64 a2] w fun e w' => e = .returned (.bool true) ∧ Below w.heap.size w w' := by
  obtain ⟨k, h⟩ := P a0 a1 a2 w0 w1 w2
  refine (codewrightlaw41_ListdecodeLimit.calls k a0 a1 a2 true w h).mono ?_
  rintro e w' ⟨rfl, hd⟩
  exact ⟨rfl, hd⟩

end Go.Proofs.Ytgjphmcofmkmfaa.PListdecodeLimit
