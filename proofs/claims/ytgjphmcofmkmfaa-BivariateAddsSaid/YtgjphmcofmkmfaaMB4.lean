/- Part 4 of the proof that the statement holds: the walks of the functions that the law reaches, and the plain law. -/
import Derived.Test.YtgjphmcofmkmfaaMB3
import Derived.Deep.Matrix
import Derived.Deep.Strs
import Derived.Carry
import Derived.ChangeSlices
import Derived.ChangeAt
import Derived.OpenShut
import Derived.JoinedAt
import Derived.ChangeOld
namespace Go.Proofs.Ytgjphmcofmkmfaa.G
open Go.RowKit Go.Proofs.YtgjphmcofmkmfaaW.PrintWords Go.Proofs.YtgjphmcofmkmfaaW.PrintLast Go.Proofs.YtgjphmcofmkmfaaW.PrintMore
attribute [local go_sem] max2_int min2_int max_two min_two max_three min_three max_four min_four
set_option linter.unusedVariables false
set_option linter.unusedSimpArgs false
set_option maxHeartbeats 8000000
set_option maxRecDepth 100000
def codewrightlaw40_same.l0 : Nat → List Int → List Int → Int → Int → Option (Bool)
 | 0, _, _, _, _ => none
 | k + 1, x0, x1, x12, x13 => if x13 < x12 then (if 0 ≤ x13 then (if x13 < (x0.length : Int) then (if x13 < (x1.length : Int) then (if (rd x0 x13) = (rd x1 x13) then (codewrightlaw40_same.l0 k x0 x1 x12 (wrap64 (x13 + 1))) else (some false)) else (none)) else (none)) else (none)) else (some true)
def codewrightlaw40_same.f (k : Nat) (l0 : List Int) (l1 : List Int) : Option (Bool) := if (l0.length : Int) = (l1.length : Int) then (codewrightlaw40_same.l0 k l0 l1 (l0.length : Int) 0) else (some false)
theorem codewrightlaw40_same.calls (k : Nat) (A0 : Option Addr) (c0 : Nat) (l0 : List Int) (A1 : Option Addr) (c1 : Nat) (l1 : List Int) (r : Bool) (w : World) (hr0 : Kd.C (Kd.int .i64) w A0 l0.length l0) (hc0 : l0.length ≤ c0) (hr1 : Kd.C (Kd.int .i64) w A1 l1.length l1) (hc1 : l1.length ≤ c1) (h : codewrightlaw40_same.f k l0 l1 = some r) :
  Calls Try.prog 38 #[.slice A0 l0.length c0, .slice A1 l1.length c1] w fun e w' => e = .returned (.bool r) ∧ Drawn0 w w' := by
 have HR0 := Aside0.mk hr0; have HC0 := Aside0.mk hc0; clear hr0 hc0; have HR1 := Aside0.mk hr1; have HC1 := Aside0.mk hc1; clear hr1 hc1; have H : (if (l0.length : Int) = (l1.length : Int) then (codewrightlaw40_same.l0 k l0 l1 (l0.length : Int) 0) else (some false)) = some r := h; clear h
 by_cases c3 : (l0.length : Int) = (l1.length : Int)
 ·rw [if_pos c3] at H; have c3b0 : ((l0.length : Int) == (l1.length : Int)) = true := beq_iff_eq.mpr c3; have c3b1 : ((l0.length : Int) != (l1.length : Int)) = false := bne_eq_false_iff_eq.mpr c3; have c3b2 : (l0.length == l1.length) = true := by first | simpa using c3 | (simp at c3 ⊢; omega)
  clear c3; have H' := Aside0.mk H; clear H; go_enter Try.func38, Try.ntmps38; go_wp2; repeat (go_quiet (fail); try go_wp2)
  go_loopg [13] k (fun kq v13 w' => ∃ (x13_1 : Int), v13 = .int .i64 x13_1 ∧ Aside0 (codewrightlaw40_same.l0 kq l0 l1 (l0.length : Int) x13_1 = some r) ∧ Aside0 (kq ≤ k) ∧ Drawn0 w w')
  case atStart => exact ⟨(0), rs, H', ⟨Nat.le_refl _⟩, by repeat (first | exact Drawn0.refl _ | apply Drawn0.step)⟩
  clear H'; obtain ⟨x13_1, rfl, HA, HK1, ⟨m1, rfl⟩⟩ := hrel; rcases gk with _ | k1
  ·exact absurd HA.out (by simp [codewrightlaw40_same.l0])
  have H := HA.out; clear HA; simp only [codewrightlaw40_same.l0] at H
  by_cases c4 : x13_1 < (l0.length : Int)
  ·rw [if_pos c4] at H; have c4b0 : decide (x13_1 < (l0.length : Int)) = true := decide_eq_true c4; clear c4; replace H := ifd H; obtain ⟨c5b0, H⟩ := H; replace H := ifd H; obtain ⟨c6b0, H⟩ := H; replace H := ifd H; obtain ⟨c7b0, H⟩ := H
   by_cases c8 : (rd l0 x13_1) = (rd l1 x13_1)
   ·rw [if_pos c8] at H; have c8b0 : ((rd l0 x13_1) == (rd l1 x13_1)) = true := beq_iff_eq.mpr c8; have c8b1 : ((rd l0 x13_1) != (rd l1 x13_1)) = false := bne_eq_false_iff_eq.mpr c8; clear c8; have H' := Aside0.mk H; clear H; have p299 : 0 ≤ (x13_1 : Int) := oda; have q299 : x13_1 < (l0.length : Int) := oda; obtain ⟨ad299, e299, hx299_0⟩ := Kd.at_int HR0.out x13_1 p299 q299; cases e299; replace p299 := eq_true p299; replace q299 := eq_true q299; have p300 : 0 ≤ (x13_1 : Int) := oda; have q300 : x13_1 < (l1.length : Int) := oda; obtain ⟨ad300, e300, hx300_0⟩ := Kd.at_int HR1.out x13_1 p300 q300; cases e300; replace p300 := eq_true p300; replace q300 := eq_true q300; go_wp2; repeat (go_quiet (fail); try go_wp2)
    go_roundg k1
    case measure => have := HK1.out; omega
    case rel => exact ⟨(wrap64 (x13_1 + 1)), rs, H', ⟨by have := HK1.out; omega⟩, by repeat (first | exact Drawn0.refl _ | apply Drawn0.step)⟩
   rw [if_neg c8] at H; have c8b0 : ((rd l0 x13_1) == (rd l1 x13_1)) = false := beq_eq_false_iff_ne.mpr c8; have c8b1 : ((rd l0 x13_1) != (rd l1 x13_1)) = true := bne_iff_ne.mpr c8; obtain rfl := Option.some.inj H; have p299 : 0 ≤ (x13_1 : Int) := oda; have q299 : x13_1 < (l0.length : Int) := oda; obtain ⟨ad299, e299, hx299_0⟩ := Kd.at_int HR0.out x13_1 p299 q299; cases e299; replace p299 := eq_true p299; replace q299 := eq_true q299; have p300 : 0 ≤ (x13_1 : Int) := oda; have q300 : x13_1 < (l1.length : Int) := oda; obtain ⟨ad300, e300, hx300_0⟩ := Kd.at_int HR1.out x13_1 p300 q300; cases e300; replace p300 := eq_true p300; replace q300 := eq_true q300; go_wp2; repeat (go_quiet (fail); try go_wp2)
   go_ret; exact ⟨by first | rfl | (simp; done) | (simp [*]; done), by repeat (first | exact Drawn0.refl _ | apply Drawn0.step)⟩
  rw [if_neg c4] at H; have c4b0 : decide (x13_1 < (l0.length : Int)) = false := decide_eq_false c4; clear c4; obtain rfl := Option.some.inj H; go_wp2; repeat (go_quiet (fail); try go_wp2)
  go_ret; exact ⟨by first | rfl | (simp; done) | (simp [*]; done), by repeat (first | exact Drawn0.refl _ | apply Drawn0.step)⟩
 rw [if_neg c3] at H; have c3b0 : ((l0.length : Int) == (l1.length : Int)) = false := beq_eq_false_iff_ne.mpr c3; have c3b1 : ((l0.length : Int) != (l1.length : Int)) = true := bne_iff_ne.mpr c3; have c3b2 : (l0.length == l1.length) = false := by first | simpa using c3 | (simp at c3 ⊢; omega)
 obtain rfl := Option.some.inj H; go_enter Try.func38, Try.ntmps38; go_wp2; repeat (go_quiet (fail); try go_wp2)
 go_ret; exact ⟨by first | rfl | (simp; done) | (simp [*]; done), by repeat (first | exact Drawn0.refl _ | apply Drawn0.step)⟩
def f2 (g : Nat) : GFd := ⟨g, 2, 1, [], 2, [1], [0, 0]⟩
theorem alive_made : codewrightlaw40_made.f 40 2 1 [] = some (some (2, [1], [0, 0])) := by kernel_rfl
theorem alive_roots (g : Nat) : bivariate_Roots.f 60 (f2 g) [[], [0, 1], [1]] 2 = some ([[], [0, 1]], 0) := by kernel_rfl
theorem alive_degree (g : Nat) : bivariate_Degree.f 40 (f2 g) [[], [0, 1], [1]] 3 = some (6, 0) := by kernel_rfl
theorem alive_mult (g : Nat) : bivariate_Multiplicity.f 40 (f2 g) [[], [0, 1], [1]] 0 0 = some 2 := by kernel_rfl
theorem alive_same : codewrightlaw40_same.f 10 [0, 1] [0, 1] = some true := by kernel_rfl
theorem made_some {w w' : World} {P M : Int} {Mod : List Int} {q : Int} {exp log : List Int} {e : Ending} (h : MadePost w P M Mod (some (q, exp, log)) e w') : ∃ g, e = .returned (.pointer (some ⟨g, 0, none⟩)) ∧ GFd.At w' (GFd.mk g P M Mod q exp log) ∧ Below w.heap.size w w' := by
 obtain ⟨(⟨h1, _⟩ | ⟨q', e', l', g, h1, _, h2, h3⟩), hb⟩ := h
 ·cases h1
 injection h1 with h1
 injection h1 with h1 h4
 injection h4 with h4 h5
 subst h1; subst h4; subst h5; exact ⟨g, h2, h3, hb⟩
theorem codewrightlaw40_alive.walk (w : World) : Calls Try.prog 23 #[] w fun e w' => e = .returned (.bool true) ∧ Below w.heap.size w w' := by
 have hu33 := Try.underlying33; go_enter Try.func23, Try.ntmps23; go_wp2_with (first | ((with_reducible refine gate_callee (f := 24) rfl ?_); refine goesL_ (some 8) rfl rfl Try.func24 (by kernel_rfl) rfl #[.agg #[.int .i64 2, .int .i64 1, .slice none 0 0]] rfl (by first | rfl | (simp; done) | (simp; rfl)) ?_; refine (codewrightlaw40_made.calls 40 2 1 none 0 [] _ _ (Kd.C_nil _ _) (Nat.le_refl _) alive_made).mono ?_; intro e w1 hm_; obtain ⟨g, rfl, hgf, hb⟩ := made_some hm_; refine ⟨_, rfl, ?_⟩; have HG := Aside0.mk (show GFd.At w1 (f2 g) from hgf); have HB := Aside0.mk hb; clear hgf hb hm_) | ((with_reducible refine gate_dst (N := 11) rfl ?_); refine Kd.R_lit (Kd.int .i64) _ 3 ?hg (N := 11) ?hd (xs := ([0, 1] : List Int)) (inner := [.int .i64 0, .int .i64 1]) (ok := fun _ => True) (okp := fun _ => True) ?hr ?hp (fun _ hk => hk) trivial (Below.refl _ _) (Nat.le_refl _) (by simp) ?_; (case hd => rfl); (case hg => rfl); (case hr => first | (go_simp; done) | (go_simp; rfl)); (case hp => exact (Reps.one (show Kd.M (Kd.int .i64) _ _ _ 0 [.int .i64 0] from rfl) (Reps.one (show Kd.M (Kd.int .i64) _ _ _ 1 [.int .i64 1] from rfl) (Reps.none _ _)))); intro va wa hoa hb hg_ hnew_; clear hg_ hnew_; have HA := Aside0.mk (Kd.R_lower hoa HB.out.size); have HB := Aside0.mk (below_step HB.out hb); have HG := Aside0.mk (GFd.At.below HG.out hb); clear hoa hb; obtain ⟨Aa, ca, rfl⟩ := Kd.R_slice HA.out) | ((with_reducible refine gate_dst (N := 12) rfl ?_); refine Kd.R_lit (Kd.int .i64) _ 3 ?hg (N := 12) ?hd (xs := ([1] : List Int)) (inner := [.int .i64 1]) (ok := fun _ => True) (okp := fun _ => True) ?hr ?hp (fun _ hk => hk) trivial (Below.refl _ _) (Nat.le_refl _) (by simp) ?_; (case hd => rfl); (case hg => rfl); (case hr => first | (go_simp; done) | (go_simp; rfl)); (case hp => exact (Reps.one (show Kd.M (Kd.int .i64) _ _ _ 1 [.int .i64 1] from rfl) (Reps.none _ _))); intro vb wb hob hb hg_ hnew_; clear hg_ hnew_; have HA := Aside0.mk (Kd.R_below HA.out hb); have HBb := Aside0.mk (Kd.R_lower hob HB.out.size); have HB := Aside0.mk (below_step HB.out hb); have HG := Aside0.mk (GFd.At.below HG.out hb); clear hob hb; obtain ⟨Ab, cb, rfl⟩ := Kd.R_slice HBb.out) | ((with_reducible refine gate_dst (N := 13) rfl ?_); refine Kd.N_lit (Kd.slice 3 (Kd.int .i64)) _ 31 ?hg (N' := 13) ?hd (xs := ([[], [0, 1], [1]] : List (List Int))) (inner := [.slice none 0 0, .slice Aa 2 ca, .slice Ab 1 cb]) (ok := fun _ => True) (okp := fun _ => True) ?hr ?hp (fun _ hk => hk) trivial (Below.refl _ _) (Nat.le_refl _) (by simp) ?_; (case hd => rfl); (case hg => rfl); (case hr => first | (go_simp; done) | (go_simp; rfl)); (case hp => exact (Reps.one (show Kd.FK (Kd.slice 3 (Kd.int .i64)) _ _ ([] : List Int) [.slice none 0 0] from (FK_of_R (e := 3) (base := 0) (Kd.R_nil (Kd.int .i64) 3 _ 0 _))) (Reps.one (show Kd.FK (Kd.slice 3 (Kd.int .i64)) _ _ [0, 1] [.slice Aa 2 ca] from (FK_of_R HA.out)) (Reps.one (show Kd.FK (Kd.slice 3 (Kd.int .i64)) _ _ [1] [.slice Ab 1 cb] from (FK_of_R HBb.out)) (Reps.none _ _))))); intro vp wp hop hb hg_ hnew_; clear hg_ hnew_; have HP := Aside0.mk (Kd.N_V (base' := 0) hop); have HB := Aside0.mk (below_step HB.out hb); have HG := Aside0.mk (GFd.At.below HG.out hb); clear HA HBb hop hb; obtain ⟨Ap, cp, rfl⟩ := Kd.V_slice HP.out) | ((with_reducible refine gate_callee (f := 37) rfl ?_); refine goesL_ (some 17) rfl rfl Try.func37 (by kernel_rfl) rfl #[.pointer (some ⟨g, 0, none⟩), .slice Ap 3 cp, .int .i64 2] rfl (by (try simp only [List.map_toArray, List.map_cons, List.map_nil]); first | done | rfl) ?_; refine (bivariate_Roots.calls 60 (f2 g) Ap cp [[], [0, 1], [1]] 2 [[], [0, 1]] 0 _ HG.out (Kd.V_reads' HP.out).2.2 (Kd.V_reads' HP.out).2.1 (alive_roots g)).mono ?_; rintro e wr ⟨vr, rfl, hor, hb⟩; refine ⟨_, rfl, ?_⟩; have HP := Aside0.mk (Kd.V_below HP.out hb); have HB := Aside0.mk (below_step HB.out hb); have HG := Aside0.mk (GFd.At.below HG.out hb); have HR := Aside0.mk hor; clear hor hb; obtain ⟨Ar, cr, rfl⟩ := Kd.R_slice HR.out) | ((with_reducible refine gate_callee (f := 33) rfl ?_); refine goesL_ (some 23) rfl rfl Try.func33 (by kernel_rfl) rfl #[.pointer (some ⟨g, 0, none⟩), .slice Ap 3 cp, .int .i64 3] rfl (by (try simp only [List.map_toArray, List.map_cons, List.map_nil]); first | done | rfl) ?_; refine (bivariate_Degree.calls 40 (f2 g) Ap cp [[], [0, 1], [1]] 3 6 0 _ HG.out (Kd.V_reads' HP.out).2.2 (Kd.V_reads' HP.out).2.1 (alive_degree g)).mono ?_; rintro e wd ⟨rfl, hb⟩; refine ⟨_, rfl, ?_⟩; have HP := Aside0.mk (Kd.V_below HP.out hb); have HB := Aside0.mk (below_step HB.out hb); have HG := Aside0.mk (GFd.At.below HG.out hb); have HR := Aside0.mk (Kd.R_below HR.out hb); clear hb; obtain ⟨ad0, A0_, c0_, e0_, hx0_, hl0_, hi0_⟩ := at_L2 (Kd.R_reads' HR.out).2.2 0 (by omega) (by decide); cases e0_; obtain ⟨ad1, A1_, c1_, e1_, hx1_, hl1_, hi1_⟩ := at_L2 (Kd.R_reads' HR.out).2.2 1 (by omega) (by decide); cases e1_; (try rw [show ((0 : Int)).toNat = 0 from rfl] at hx0_); (try rw [Addr.add_zero'] at hx0_); (change wd.cell? { block := ad0.block, off := ad0.off + 1 } = _ at hx1_); have HI := Aside0.mk hi1_; have HL := Aside0.mk hl1_; clear hi0_ hl0_ hi1_ hl1_) | ((with_reducible refine gate_dst (N := 44) rfl ?_); (try (refine gate_guard (by rfl) ?_; dsimp only)); refine Kd.R_lit (Kd.int .i64) _ 3 ?hg (N := 44) ?hd (xs := ([0, 1] : List Int)) (inner := [.int .i64 0, .int .i64 1]) (ok := fun _ => True) (okp := fun _ => True) ?hr ?hp (fun _ hk => hk) trivial (Below.refl _ _) (Nat.le_refl _) (by simp) ?_; (case hd => rfl); (case hg => rfl); (case hr => first | (go_simp; done) | (go_simp; rfl)); (case hp => exact (Reps.one (show Kd.M (Kd.int .i64) _ _ _ 0 [.int .i64 0] from rfl) (Reps.one (show Kd.M (Kd.int .i64) _ _ _ 1 [.int .i64 1] from rfl) (Reps.none _ _)))); intro vz wz hoz hb hg_ hnew_; clear hg_ hnew_; have HZ := Aside0.mk hoz; have HI := Aside0.mk (Kd.C_below HI.out hb); have HP := Aside0.mk (Kd.V_below HP.out hb); have HB := Aside0.mk (below_step HB.out hb); have HG := Aside0.mk (GFd.At.below HG.out hb); clear hoz hb; obtain ⟨Az, cz, rfl⟩ := Kd.R_slice HZ.out) | ((with_reducible refine gate_dst (N := 45) rfl ?_); (try (refine gate_guard (by rfl) ?_; dsimp only)); refine goesL_ (some 45) rfl rfl Try.func38 (by kernel_rfl) rfl #[.slice A1_ 2 c1_, .slice Az 2 cz] rfl (by (try simp only [List.map_toArray, List.map_cons, List.map_nil]); first | done | rfl) ?_; refine (codewrightlaw40_same.calls 10 A1_ c1_ [0, 1] Az cz [0, 1] true _ HI.out HL.out (Kd.R_reads' HZ.out).2.2 (Kd.R_reads' HZ.out).2.1 alive_same).mono ?_; rintro e ws ⟨rfl, hdr⟩; have hb := hdr.below; refine ⟨_, rfl, ?_⟩; have HP := Aside0.mk (Kd.V_below HP.out hb); have HB := Aside0.mk (below_step HB.out hb); have HG := Aside0.mk (GFd.At.below HG.out hb); clear hb) | ((with_reducible refine gate_dst (N := 58) rfl ?_); (try (refine gate_guard (by rfl) ?_; dsimp only)); refine goesL_ (some 58) rfl rfl Try.func35 (by kernel_rfl) rfl #[.pointer (some ⟨g, 0, none⟩), .slice Ap 3 cp, .int .i64 0, .int .i64 0] rfl (by (try simp only [List.map_toArray, List.map_cons, List.map_nil]); first | done | rfl) ?_; refine (bivariate_Multiplicity.calls 40 (f2 g) Ap cp [[], [0, 1], [1]] 0 0 2 _ HG.out (Kd.V_reads' HP.out).2.2 (Kd.V_reads' HP.out).2.1 (alive_mult g)).mono ?_; rintro e wm ⟨rfl, hb⟩; refine ⟨_, rfl, ?_⟩; have HB := Aside0.mk (below_step HB.out hb); clear hb))
 go_ret; exact ⟨rfl, HB.out⟩
mutual
def codewrightlaw40_small.l0 : Nat → List (List (List Int)) → Int → Int → Option (Bool)
 | 0, _, _, _ => none
 | k + 1, x7, x8, x9 => if x9 < x8 then (if 0 ≤ x9 then (if x9 < (x7.length : Int) then (if ((rd_L3 x7 x9).length : Int) > 6 then (some false) else (codewrightlaw40_small.l1 k x7 x8 x9 (rd_L3 x7 x9) ((rd_L3 x7 x9).length : Int) 0)) else (none)) else (none)) else (some true)
def codewrightlaw40_small.l1 : Nat → List (List (List Int)) → Int → Int → List (List Int) → Int → Int → Option (Bool)
 | 0, _, _, _, _, _, _ => none
 | k + 1, x7, x8, x9, x16, x17, x18 => if x18 < x17 then (if 0 ≤ x18 then (if x18 < (x16.length : Int) then (if ((rd_L2 x16 x18).length : Int) > 12 then (some false) else (codewrightlaw40_small.l1 k x7 x8 x9 x16 x17 (wrap64 (x18 + 1)))) else (none)) else (none)) else (codewrightlaw40_small.l0 k x7 x8 (wrap64 (x9 + 1)))
end
def codewrightlaw40_small.f (k : Nat) (l0 : List (List (List Int))) : Option (Bool) := codewrightlaw40_small.l0 k l0 (l0.length : Int) 0
theorem codewrightlaw40_small.calls (k : Nat) (A0 : Option Addr) (c0 : Nat) (l0 : List (List (List Int))) (r : Bool) (w : World) (hr0 : Kd.C (Kd.slice 31 (Kd.slice 3 (Kd.int .i64))) w A0 l0.length l0) (hc0 : l0.length ≤ c0) (h : codewrightlaw40_small.f k l0 = some r) :
  Calls Try.prog 25 #[.slice A0 l0.length c0] w fun e w' => e = .returned (.bool r) ∧ Drawn0 w w' := by
 have HR0 := Aside0.mk hr0; have HC0 := Aside0.mk hc0; clear hr0 hc0; have H : (codewrightlaw40_small.l0 k l0 (l0.length : Int) 0) = some r := h; clear h; have H' := Aside0.mk H; clear H; go_enter Try.func25, Try.ntmps25; go_wp2; go_loopg [9] k (fun kq v9 w' => ∃ (x9_1 : Int), v9 = .int .i64 x9_1 ∧ Aside0 (codewrightlaw40_small.l0 kq l0 (l0.length : Int) x9_1 = some r) ∧ Aside0 (kq ≤ k) ∧ Drawn0 w w')
 case atStart => exact ⟨(0), rs, H', ⟨Nat.le_refl _⟩, by repeat (first | exact Drawn0.refl _ | apply Drawn0.step)⟩
 clear H'; obtain ⟨x9_1, rfl, HA, HK1, ⟨m1, rfl⟩⟩ := hrel; rcases gk with _ | k1
 ·exact absurd HA.out (by simp [codewrightlaw40_small.l0])
 have H := HA.out; clear HA; simp only [codewrightlaw40_small.l0] at H
 by_cases c2 : x9_1 < (l0.length : Int)
 ·rw [if_pos c2] at H; have c2b0 : decide (x9_1 < (l0.length : Int)) = true := decide_eq_true c2; clear c2; replace H := ifd H; obtain ⟨c3b0, H⟩ := H; replace H := ifd H; obtain ⟨c4b0, H⟩ := H
  by_cases c5 : ((rd_L3 l0 x9_1).length : Int) > 6
  ·rw [if_pos c5] at H; have c5b0 : decide (6 < ((rd_L3 l0 x9_1).length : Int)) = true := decide_eq_true c5; have c5b1 : decide (6 < (rd_L3 l0 x9_1).length) = true := decide_eq_true (by omega); clear c5; obtain rfl := Option.some.inj H; have p301 : 0 ≤ (x9_1 : Int) := oda; have q301 : x9_1 < (l0.length : Int) := oda; obtain ⟨ad301, A301_0, c301_0, e301, hx301_0, hl301_0, hi301_0⟩ := at_L3 HR0.out x9_1 p301 q301; cases e301; have HR301_0 := Aside0.mk hi301_0; have HC301_0 := Aside0.mk hl301_0; clear hi301_0 hl301_0; replace p301 := eq_true p301; replace q301 := eq_true q301; go_wp2; go_ret; exact ⟨by first | rfl | (simp; done) | (simp [*]; done), by repeat (first | exact Drawn0.refl _ | apply Drawn0.step)⟩
  rw [if_neg c5] at H; have c5b0 : decide (6 < ((rd_L3 l0 x9_1).length : Int)) = false := decide_eq_false c5; have c5b1 : decide (6 < (rd_L3 l0 x9_1).length) = false := decide_eq_false (by omega); clear c5; have H' := Aside0.mk H; clear H; have p301 : 0 ≤ (x9_1 : Int) := oda; have q301 : x9_1 < (l0.length : Int) := oda; obtain ⟨ad301, A301_0, c301_0, e301, hx301_0, hl301_0, hi301_0⟩ := at_L3 HR0.out x9_1 p301 q301; cases e301; have HR301_0 := Aside0.mk hi301_0; have HC301_0 := Aside0.mk hl301_0; clear hi301_0 hl301_0; replace p301 := eq_true p301; replace q301 := eq_true q301; go_wp2; go_loopg [18] k1 (fun kq v18 w' => ∃ (x18_2 : Int), v18 = .int .i64 x18_2 ∧ Aside0 (codewrightlaw40_small.l1 kq l0 (l0.length : Int) x9_1 (rd_L3 l0 x9_1) ((rd_L3 l0 x9_1).length : Int) x18_2 = some r) ∧ Aside0 (kq ≤ k1) ∧ Drawn0 w w')
  case atStart => exact ⟨(0), rs, H', ⟨Nat.le_refl _⟩, by repeat (first | exact Drawn0.refl _ | apply Drawn0.step)⟩
  clear H'; obtain ⟨x18_2, rfl, HA, HK2, ⟨m2, rfl⟩⟩ := hrel; rcases gk with _ | k2
  ·exact absurd HA.out (by simp [codewrightlaw40_small.l1])
  have H := HA.out; clear HA; simp only [codewrightlaw40_small.l1] at H
  by_cases c6 : x18_2 < ((rd_L3 l0 x9_1).length : Int)
  ·rw [if_pos c6] at H; have c6b0 : decide (x18_2 < ((rd_L3 l0 x9_1).length : Int)) = true := decide_eq_true c6; clear c6; replace H := ifd H; obtain ⟨c7b0, H⟩ := H; replace H := ifd H; obtain ⟨c8b0, H⟩ := H
   by_cases c9 : ((rd_L2 (rd_L3 l0 x9_1) x18_2).length : Int) > 12
   ·rw [if_pos c9] at H; have c9b0 : decide (12 < ((rd_L2 (rd_L3 l0 x9_1) x18_2).length : Int)) = true := decide_eq_true c9; have c9b1 : decide (12 < (rd_L2 (rd_L3 l0 x9_1) x18_2).length) = true := decide_eq_true (by omega); clear c9; obtain rfl := Option.some.inj H; have p302 : 0 ≤ (x18_2 : Int) := oda; have q302 : x18_2 < ((rd_L3 l0 x9_1).length : Int) := oda; obtain ⟨ad302, A302_0, c302_0, e302, hx302_0, hl302_0, hi302_0⟩ := at_L2 HR301_0.out x18_2 p302 q302; cases e302; have HR302_0 := Aside0.mk hi302_0; have HC302_0 := Aside0.mk hl302_0; clear hi302_0 hl302_0; replace p302 := eq_true p302; replace q302 := eq_true q302; go_wp2; go_ret; exact ⟨by first | rfl | (simp; done) | (simp [*]; done), by repeat (first | exact Drawn0.refl _ | apply Drawn0.step)⟩
   rw [if_neg c9] at H; have c9b0 : decide (12 < ((rd_L2 (rd_L3 l0 x9_1) x18_2).length : Int)) = false := decide_eq_false c9; have c9b1 : decide (12 < (rd_L2 (rd_L3 l0 x9_1) x18_2).length) = false := decide_eq_false (by omega); clear c9; have H' := Aside0.mk H; clear H; have p302 : 0 ≤ (x18_2 : Int) := oda; have q302 : x18_2 < ((rd_L3 l0 x9_1).length : Int) := oda; obtain ⟨ad302, A302_0, c302_0, e302, hx302_0, hl302_0, hi302_0⟩ := at_L2 HR301_0.out x18_2 p302 q302; cases e302; have HR302_0 := Aside0.mk hi302_0; have HC302_0 := Aside0.mk hl302_0; clear hi302_0 hl302_0; replace p302 := eq_true p302; replace q302 := eq_true q302; go_wp2; go_roundg k2
   case measure => have := HK1.out; have := HK2.out; omega
   case rel => exact ⟨(wrap64 (x18_2 + 1)), rs, H', ⟨by have := HK1.out; have := HK2.out; omega⟩, by repeat (first | exact Drawn0.refl _ | apply Drawn0.step)⟩
  rw [if_neg c6] at H; have c6b0 : decide (x18_2 < ((rd_L3 l0 x9_1).length : Int)) = false := decide_eq_false c6; clear c6; have H' := Aside0.mk H; clear H; go_wp2; go_roundg k2
  case measure => have := HK1.out; have := HK2.out; omega
  case rel => exact ⟨(wrap64 (x9_1 + 1)), rs, H', ⟨by have := HK1.out; have := HK2.out; omega⟩, by repeat (first | exact Drawn0.refl _ | apply Drawn0.step)⟩
 rw [if_neg c2] at H; have c2b0 : decide (x9_1 < (l0.length : Int)) = false := decide_eq_false c2; clear c2; obtain rfl := Option.some.inj H; go_wp2; go_ret; exact ⟨by first | rfl | (simp; done) | (simp [*]; done), by repeat (first | exact Drawn0.refl _ | apply Drawn0.step)⟩
mutual
def codewrightref40_Same.l0 : Nat → List (List Int) → List (List Int) → Int → Option (Bool)
 | 0, _, _, _ => none
 | k + 1, x0, x1, x5 => if x5 < (x0.length : Int) then (if 0 ≤ x5 then (if x5 < (x1.length : Int) then (if ((rd_L2 x0 x5).length : Int) = ((rd_L2 x1 x5).length : Int) then (codewrightref40_Same.l1 k x0 x1 x5 0) else (some false)) else (none)) else (none)) else (some true)
def codewrightref40_Same.l1 : Nat → List (List Int) → List (List Int) → Int → Int → Option (Bool)
 | 0, _, _, _, _ => none
 | k + 1, x0, x1, x5, x6 => if 0 ≤ x5 then (if x5 < (x0.length : Int) then (if x6 < ((rd_L2 x0 x5).length : Int) then (if 0 ≤ x6 then (if x5 < (x1.length : Int) then (if x6 < ((rd_L2 x1 x5).length : Int) then (if (rd (rd_L2 x0 x5) x6) = (rd (rd_L2 x1 x5) x6) then (codewrightref40_Same.l1 k x0 x1 x5 (wrap64 (x6 + 1))) else (some false)) else (none)) else (none)) else (none)) else (codewrightref40_Same.l0 k x0 x1 (wrap64 (x5 + 1)))) else (none)) else (none)
end
def codewrightref40_Same.f (k : Nat) (l0 : List (List Int)) (l1 : List (List Int)) : Option (Bool) := if (l0.length : Int) = (l1.length : Int) then (codewrightref40_Same.l0 k l0 l1 0) else (some false)
theorem codewrightref40_Same.calls (k : Nat) (A0 : Option Addr) (c0 : Nat) (l0 : List (List Int)) (A1 : Option Addr) (c1 : Nat) (l1 : List (List Int)) (r : Bool) (w : World) (hr0 : Kd.C (Kd.slice 3 (Kd.int .i64)) w A0 l0.length l0) (hc0 : l0.length ≤ c0) (hr1 : Kd.C (Kd.slice 3 (Kd.int .i64)) w A1 l1.length l1) (hc1 : l1.length ≤ c1) (h : codewrightref40_Same.f k l0 l1 = some r) :
  Calls Try.prog 26 #[.slice A0 l0.length c0, .slice A1 l1.length c1] w fun e w' => e = .returned (.bool r) ∧ Drawn0 w w' := by
 have HR0 := Aside0.mk hr0
 have HC0 := Aside0.mk hc0
 clear hr0 hc0
 have HR1 := Aside0.mk hr1
 have HC1 := Aside0.mk hc1
 clear hr1 hc1
 have H : (if (l0.length : Int) = (l1.length : Int) then (codewrightref40_Same.l0 k l0 l1 0) else (some false)) = some r := h
 clear h
 by_cases c3 : (l0.length : Int) = (l1.length : Int)
 ·rw [if_pos c3] at H
  have c3b0 : ((l0.length : Int) == (l1.length : Int)) = true := beq_iff_eq.mpr c3
  have c3b1 : ((l0.length : Int) != (l1.length : Int)) = false := bne_eq_false_iff_eq.mpr c3
  have c3b2 : (l0.length == l1.length) = true := by first | simpa using c3 | (simp at c3 ⊢; omega)
  clear c3
  have H' := Aside0.mk H
  clear H
  go_enter Try.func26, Try.ntmps26
  go_wp2
  repeat (go_quiet (fail); try go_wp2)
  go_loopg [5] k (fun kq v5 w' => ∃ (x5_1 : Int), v5 = .int .i64 x5_1 ∧ Aside0 (codewrightref40_Same.l0 kq l0 l1 x5_1 = some r) ∧ Aside0 (kq ≤ k) ∧ Drawn0 w w')
  case atStart => exact ⟨(0), rs, H', ⟨Nat.le_refl _⟩, by repeat (first | exact Drawn0.refl _ | apply Drawn0.step)⟩
  case round =>
   clear H'
   try clear c1
   try clear c2
   try clear p2
   try clear c3
   try clear c3b0
   try clear c3b1
   try clear c3b2
   obtain ⟨x5_1, rfl, HA, HK1, ⟨m1, rfl⟩⟩ := hrel
   rcases gk with _ | k1
   ·exact absurd HA.out (by simp [codewrightref40_Same.l0])
   have H := HA.out
   clear HA
   simp only [codewrightref40_Same.l0] at H
   by_cases c4 : x5_1 < (l0.length : Int)
   ·rw [if_pos c4] at H
    have c4b0 : decide (x5_1 < (l0.length : Int)) = true := decide_eq_true c4
    clear c4
    replace H := ifd H; obtain ⟨c5b0, H⟩ := H
    replace H := ifd H; obtain ⟨c6b0, H⟩ := H
    by_cases c7 : ((rd_L2 l0 x5_1).length : Int) = ((rd_L2 l1 x5_1).length : Int)
    ·rw [if_pos c7] at H
     have c7b0 : (((rd_L2 l0 x5_1).length : Int) == ((rd_L2 l1 x5_1).length : Int)) = true := beq_iff_eq.mpr c7
     have c7b1 : (((rd_L2 l0 x5_1).length : Int) != ((rd_L2 l1 x5_1).length : Int)) = false := bne_eq_false_iff_eq.mpr c7
     have c7b2 : ((rd_L2 l0 x5_1).length == (rd_L2 l1 x5_1).length) = true := by first | simpa using c7 | (simp at c7 ⊢; omega)
     clear c7
     have H' := Aside0.mk H
     clear H
     have p303 : 0 ≤ (x5_1 : Int) := oda
     have q303 : x5_1 < (l0.length : Int) := oda
     obtain ⟨ad303, A303_0, c303_0, e303, hx303_0, hl303_0, hi303_0⟩ := at_L2 HR0.out x5_1 p303 q303
     cases e303
     have HR303_0 := Aside0.mk hi303_0
     have HC303_0 := Aside0.mk hl303_0
     clear hi303_0 hl303_0
     replace p303 := eq_true p303
     replace q303 := eq_true q303
     have p304 : 0 ≤ (x5_1 : Int) := oda
     have q304 : x5_1 < (l1.length : Int) := oda
     obtain ⟨ad304, A304_0, c304_0, e304, hx304_0, hl304_0, hi304_0⟩ := at_L2 HR1.out x5_1 p304 q304
     cases e304
     have HR304_0 := Aside0.mk hi304_0
     have HC304_0 := Aside0.mk hl304_0
     clear hi304_0 hl304_0
     replace p304 := eq_true p304
     replace q304 := eq_true q304
     go_wp2
     repeat (go_quiet (fail); try go_wp2)
     go_loopg [6] k1 (fun kq v6 w' => ∃ (x6_2 : Int), v6 = .int .i64 x6_2 ∧ Aside0 (codewrightref40_Same.l1 kq l0 l1 x5_1 x6_2 = some r) ∧ Aside0 (kq ≤ k1) ∧ Drawn0 w w')
     case atStart => exact ⟨(0), rs, H', ⟨Nat.le_refl _⟩, by repeat (first | exact Drawn0.refl _ | apply Drawn0.step)⟩
     case round =>
      clear H'
      try clear c1
      try clear c2
      try clear p2
      try clear c3
      try clear c3b0
      try clear c3b1
      try clear c3b2
      try clear p3
      try clear q3
      try clear hx3
      try clear c4
      try clear c4b0
      try clear c5
      try clear c5b0
      try clear c6
      try clear c6b0
      try clear c7
      try clear c7b0
      try clear c7b1
      try clear c7b2
      try clear hx303_0
      try clear hx304_0
      try clear p2
      try clear p303
      try clear p304
      try clear q303
      try clear q304
      obtain ⟨x6_2, rfl, HA, HK2, ⟨m2, rfl⟩⟩ := hrel
      rcases gk with _ | k2
      ·exact absurd HA.out (by simp [codewrightref40_Same.l1])
      have H := HA.out
      clear HA
      simp only [codewrightref40_Same.l1] at H
      replace H := ifd H; obtain ⟨c8b0, H⟩ := H
      replace H := ifd H; obtain ⟨c9b0, H⟩ := H
      by_cases c10 : x6_2 < ((rd_L2 l0 x5_1).length : Int)
      ·rw [if_pos c10] at H
       have c10b0 : decide (x6_2 < ((rd_L2 l0 x5_1).length : Int)) = true := decide_eq_true c10
       clear c10
       replace H := ifd H; obtain ⟨c11b0, H⟩ := H
       replace H := ifd H; obtain ⟨c12b0, H⟩ := H
       replace H := ifd H; obtain ⟨c13b0, H⟩ := H
       by_cases c14 : (rd (rd_L2 l0 x5_1) x6_2) = (rd (rd_L2 l1 x5_1) x6_2)
       ·rw [if_pos c14] at H
        have c14b0 : ((rd (rd_L2 l0 x5_1) x6_2) == (rd (rd_L2 l1 x5_1) x6_2)) = true := beq_iff_eq.mpr c14
        have c14b1 : ((rd (rd_L2 l0 x5_1) x6_2) != (rd (rd_L2 l1 x5_1) x6_2)) = false := bne_eq_false_iff_eq.mpr c14
        clear c14
        have H' := Aside0.mk H
        clear H
        have p305 : 0 ≤ (x5_1 : Int) := oda
        have q305 : x5_1 < (l0.length : Int) := oda
        obtain ⟨ad305, A305_0, c305_0, e305, hx305_0, hl305_0, hi305_0⟩ := at_L2 HR0.out x5_1 p305 q305
        obtain rfl : ad303 = ad305 := (by injection e305)
        have HR305_0 := Aside0.mk hi305_0
        have HC305_0 := Aside0.mk hl305_0
        clear hi305_0 hl305_0
        replace p305 := eq_true p305
        replace q305 := eq_true q305
        have p306 : 0 ≤ (x5_1 : Int) := oda
        have q306 : x5_1 < (l0.length : Int) := oda
        obtain ⟨ad306, A306_0, c306_0, e306, hx306_0, hl306_0, hi306_0⟩ := at_L2 HR0.out x5_1 p306 q306
        obtain rfl : ad303 = ad306 := (by injection e306)
        have HR306_0 := Aside0.mk hi306_0
        have HC306_0 := Aside0.mk hl306_0
        clear hi306_0 hl306_0
        replace p306 := eq_true p306
        replace q306 := eq_true q306
        have ea_ := Option.some.inj (hx305_0.symm.trans hx306_0)
        injection ea_ with ea_ en_ ec_
        subst ea_
        subst ec_
        clear en_
        have p307 : 0 ≤ (x6_2 : Int) := oda
        have q307 : x6_2 < ((rd_L2 l0 x5_1).length : Int) := oda
        obtain ⟨ad307, e307, hx307_0⟩ := Kd.at_int HR306_0.out x6_2 p307 q307
        cases e307
        replace p307 := eq_true p307
        replace q307 := eq_true q307
        have p308 : 0 ≤ (x5_1 : Int) := oda
        have q308 : x5_1 < (l1.length : Int) := oda
        obtain ⟨ad308, A308_0, c308_0, e308, hx308_0, hl308_0, hi308_0⟩ := at_L2 HR1.out x5_1 p308 q308
        obtain rfl : ad304 = ad308 := (by injection e308)
        have HR308_0 := Aside0.mk hi308_0
        have HC308_0 := Aside0.mk hl308_0
        clear hi308_0 hl308_0
        replace p308 := eq_true p308
        replace q308 := eq_true q308
        have p309 : 0 ≤ (x6_2 : Int) := oda
        have q309 : x6_2 < ((rd_L2 l1 x5_1).length : Int) := oda
        obtain ⟨ad309, e309, hx309_0⟩ := Kd.at_int HR308_0.out x6_2 p309 q309
        cases e309
        replace p309 := eq_true p309
        replace q309 := eq_true q309
        go_wp2
        repeat (go_quiet (fail); try go_wp2)
        go_roundg k2
        case measure => have := HK1.out; have := HK2.out; omega
        case rel => exact ⟨(wrap64 (x6_2 + 1)), rs, H', ⟨by have := HK1.out; have := HK2.out; omega⟩, by repeat (first | exact Drawn0.refl _ | apply Drawn0.step)⟩
       ·rw [if_neg c14] at H
        have c14b0 : ((rd (rd_L2 l0 x5_1) x6_2) == (rd (rd_L2 l1 x5_1) x6_2)) = false := beq_eq_false_iff_ne.mpr c14
        have c14b1 : ((rd (rd_L2 l0 x5_1) x6_2) != (rd (rd_L2 l1 x5_1) x6_2)) = true := bne_iff_ne.mpr c14
        obtain rfl := Option.some.inj H
        have p305 : 0 ≤ (x5_1 : Int) := oda
        have q305 : x5_1 < (l0.length : Int) := oda
        obtain ⟨ad305, A305_0, c305_0, e305, hx305_0, hl305_0, hi305_0⟩ := at_L2 HR0.out x5_1 p305 q305
        obtain rfl : ad303 = ad305 := (by injection e305)
        have HR305_0 := Aside0.mk hi305_0
        have HC305_0 := Aside0.mk hl305_0
        clear hi305_0 hl305_0
        replace p305 := eq_true p305
        replace q305 := eq_true q305
        have p306 : 0 ≤ (x5_1 : Int) := oda
        have q306 : x5_1 < (l0.length : Int) := oda
        obtain ⟨ad306, A306_0, c306_0, e306, hx306_0, hl306_0, hi306_0⟩ := at_L2 HR0.out x5_1 p306 q306
        obtain rfl : ad303 = ad306 := (by injection e306)
        have HR306_0 := Aside0.mk hi306_0
        have HC306_0 := Aside0.mk hl306_0
        clear hi306_0 hl306_0
        replace p306 := eq_true p306
        replace q306 := eq_true q306
        have ea_ := Option.some.inj (hx305_0.symm.trans hx306_0)
        injection ea_ with ea_ en_ ec_
        subst ea_
        subst ec_
        clear en_
        have p307 : 0 ≤ (x6_2 : Int) := oda
        have q307 : x6_2 < ((rd_L2 l0 x5_1).length : Int) := oda
        obtain ⟨ad307, e307, hx307_0⟩ := Kd.at_int HR306_0.out x6_2 p307 q307
        cases e307
        replace p307 := eq_true p307
        replace q307 := eq_true q307
        have p308 : 0 ≤ (x5_1 : Int) := oda
        have q308 : x5_1 < (l1.length : Int) := oda
        obtain ⟨ad308, A308_0, c308_0, e308, hx308_0, hl308_0, hi308_0⟩ := at_L2 HR1.out x5_1 p308 q308
        obtain rfl : ad304 = ad308 := (by injection e308)
        have HR308_0 := Aside0.mk hi308_0
        have HC308_0 := Aside0.mk hl308_0
        clear hi308_0 hl308_0
        replace p308 := eq_true p308
        replace q308 := eq_true q308
        have p309 : 0 ≤ (x6_2 : Int) := oda
        have q309 : x6_2 < ((rd_L2 l1 x5_1).length : Int) := oda
        obtain ⟨ad309, e309, hx309_0⟩ := Kd.at_int HR308_0.out x6_2 p309 q309
        cases e309
        replace p309 := eq_true p309
        replace q309 := eq_true q309
        go_wp2
        repeat (go_quiet (fail); try go_wp2)
        go_ret
        exact ⟨by first | rfl | (simp; done) | (simp [*]; done), by repeat (first | exact Drawn0.refl _ | apply Drawn0.step)⟩
      ·rw [if_neg c10] at H
       have c10b0 : decide (x6_2 < ((rd_L2 l0 x5_1).length : Int)) = false := decide_eq_false c10
       clear c10
       have H' := Aside0.mk H
       clear H
       have p305 : 0 ≤ (x5_1 : Int) := oda
       have q305 : x5_1 < (l0.length : Int) := oda
       obtain ⟨ad305, A305_0, c305_0, e305, hx305_0, hl305_0, hi305_0⟩ := at_L2 HR0.out x5_1 p305 q305
       obtain rfl : ad303 = ad305 := (by injection e305)
       have HR305_0 := Aside0.mk hi305_0
       have HC305_0 := Aside0.mk hl305_0
       clear hi305_0 hl305_0
       replace p305 := eq_true p305
       replace q305 := eq_true q305
       go_wp2
       repeat (go_quiet (fail); try go_wp2)
       go_roundg k2
       case measure => have := HK1.out; have := HK2.out; omega
       case rel => exact ⟨(wrap64 (x5_1 + 1)), rs, H', ⟨by have := HK1.out; have := HK2.out; omega⟩, by repeat (first | exact Drawn0.refl _ | apply Drawn0.step)⟩
    ·rw [if_neg c7] at H
     have c7b0 : (((rd_L2 l0 x5_1).length : Int) == ((rd_L2 l1 x5_1).length : Int)) = false := beq_eq_false_iff_ne.mpr c7
     have c7b1 : (((rd_L2 l0 x5_1).length : Int) != ((rd_L2 l1 x5_1).length : Int)) = true := bne_iff_ne.mpr c7
     have c7b2 : ((rd_L2 l0 x5_1).length == (rd_L2 l1 x5_1).length) = false := by first | simpa using c7 | (simp at c7 ⊢; omega)
     obtain rfl := Option.some.inj H
     have p303 : 0 ≤ (x5_1 : Int) := oda
     have q303 : x5_1 < (l0.length : Int) := oda
     obtain ⟨ad303, A303_0, c303_0, e303, hx303_0, hl303_0, hi303_0⟩ := at_L2 HR0.out x5_1 p303 q303
     cases e303
     have HR303_0 := Aside0.mk hi303_0
     have HC303_0 := Aside0.mk hl303_0
     clear hi303_0 hl303_0
     replace p303 := eq_true p303
     replace q303 := eq_true q303
     have p304 : 0 ≤ (x5_1 : Int) := oda
     have q304 : x5_1 < (l1.length : Int) := oda
     obtain ⟨ad304, A304_0, c304_0, e304, hx304_0, hl304_0, hi304_0⟩ := at_L2 HR1.out x5_1 p304 q304
     cases e304
     have HR304_0 := Aside0.mk hi304_0
     have HC304_0 := Aside0.mk hl304_0
     clear hi304_0 hl304_0
     replace p304 := eq_true p304
     replace q304 := eq_true q304
     go_wp2
     repeat (go_quiet (fail); try go_wp2)
     go_ret
     exact ⟨by first | rfl | (simp; done) | (simp [*]; done), by repeat (first | exact Drawn0.refl _ | apply Drawn0.step)⟩
   ·rw [if_neg c4] at H
    have c4b0 : decide (x5_1 < (l0.length : Int)) = false := decide_eq_false c4
    clear c4
    obtain rfl := Option.some.inj H
    go_wp2
    repeat (go_quiet (fail); try go_wp2)
    go_ret
    exact ⟨by first | rfl | (simp; done) | (simp [*]; done), by repeat (first | exact Drawn0.refl _ | apply Drawn0.step)⟩
 ·rw [if_neg c3] at H
  have c3b0 : ((l0.length : Int) == (l1.length : Int)) = false := beq_eq_false_iff_ne.mpr c3
  have c3b1 : ((l0.length : Int) != (l1.length : Int)) = true := bne_iff_ne.mpr c3
  have c3b2 : (l0.length == l1.length) = false := by first | simpa using c3 | (simp at c3 ⊢; omega)
  obtain rfl := Option.some.inj H
  go_enter Try.func26, Try.ntmps26
  go_wp2
  repeat (go_quiet (fail); try go_wp2)
  go_ret
  exact ⟨by first | rfl | (simp; done) | (simp [*]; done), by repeat (first | exact Drawn0.refl _ | apply Drawn0.step)⟩
def codewrightref04_Is.f (k : Nat) (a0_0 : Int) (a0_1 : Int) (l0_2 : List Int) (a1 : Int) : Option (Bool) := if a1 ≥ 0 then ((codewrightref04_Order.f k a0_0 a0_1 l0_2).bind fun t311 => (some (decide (a1 < t311)))) else (some false)
theorem codewrightref04_Is.calls (k : Nat) (a0_0 : Int) (a0_1 : Int) (A0_2 : Option Addr) (c0_2 : Nat) (l0_2 : List Int) (a1 : Int) (r : Bool) (w : World) (hr0_2 : Kd.C (Kd.int .i64) w A0_2 l0_2.length l0_2) (hc0_2 : l0_2.length ≤ c0_2) (h : codewrightref04_Is.f k a0_0 a0_1 l0_2 a1 = some r) :
  Calls Try.prog 114 #[.agg #[.int .i64 a0_0, .int .i64 a0_1, .slice A0_2 l0_2.length c0_2], .int .i64 a1] w fun e w' => e = .returned (.bool r) ∧ Below w.heap.size w w' := by
 have hu33 := Try.underlying33; have HR0_2 := Aside0.mk hr0_2; have HC0_2 := Aside0.mk hc0_2; clear hr0_2 hc0_2; have HB := Aside0.mk (Below.refl w.heap.size w); have H : (if a1 ≥ 0 then ((codewrightref04_Order.f k a0_0 a0_1 l0_2).bind fun t311 => (some (decide (a1 < t311)))) else (some false)) = some r := h; clear h
 by_cases c3 : a1 ≥ 0
 ·rw [if_pos c3] at H; have c3b0 : decide (0 ≤ a1) = true := decide_eq_true c3; clear c3; replace H := bz H; obtain ⟨t311, A4, H⟩ := H; obtain rfl := Option.some.inj H; go_enter Try.func114, Try.ntmps114; go_wp2_with (first | ((with_reducible refine gate_dst (N := 2) rfl ?_); refine bx (cs := #[.int .i64 a0_0, .int .i64 a0_1, .slice A0_2 l0_2.length c0_2]) (t := 33) ?_; intro gb310 hg w5 hbox hb; have BK310 := Aside0.mk (hbox); have GW310 := Aside0.mk ((by rw [hg]; exact bsz : w.heap.size ≤ gb310)); have GE310 := Aside0.mk ((by rw [hg]; exact bsz : w.heap.size ≤ gb310)); replace HB := bst hb; clear hb hbox hg; obtain ⟨hcz6_0, hcz6_1, hcz6_2, hfz6_0, hfz6_1, hfz6_2⟩ := b3 BK310) | (go_at_call 91; (with_reducible refine (codewrightref04_Order.calls k a0_0 a0_1 _ _ l0_2 t311 _ ?side1 ?side2 A4.out).mono ?_); (case side1 => exact cb HR0_2); (case side2 => exact HC0_2.out); rintro e w7 ⟨rfl, hb⟩; replace BK310 := Aside0.mk (blk_below (g := gb310) (o := .cells #[.int .i64 a0_0, .int .i64 a0_1, .slice A0_2 l0_2.length c0_2] 33 (0, 0)) (ba BK310) hb); replace HB := bst hb))
  go_ret; exact ⟨ren, bel⟩
 rw [if_neg c3] at H; have c3b0 : decide (0 ≤ a1) = false := decide_eq_false c3; clear c3; obtain rfl := Option.some.inj H; go_enter Try.func114, Try.ntmps114; go_wp2_with (first | ((with_reducible refine gate_dst (N := 2) rfl ?_); refine bx (cs := #[.int .i64 a0_0, .int .i64 a0_1, .slice A0_2 l0_2.length c0_2]) (t := 33) ?_; intro gb310 hg w8 hbox hb; have BK310 := Aside0.mk (hbox); have GW310 := Aside0.mk ((by rw [hg]; exact bsz : w.heap.size ≤ gb310)); have GE310 := Aside0.mk ((by rw [hg]; exact bsz : w.heap.size ≤ gb310)); replace HB := bst hb; clear hb hbox hg))
 go_ret; exact ⟨ren, bel⟩
def codewrightref04_In.f (k : Nat) (a0_0 : Int) (a0_1 : Int) (l0_2 : List Int) (a1 : Int) : Option (Int) := (codewrightref04_Is.f k a0_0 a0_1 l0_2 a1).bind fun t313 => (if t313 = true then (some a1) else (some 0))
theorem codewrightref04_In.calls (k : Nat) (a0_0 : Int) (a0_1 : Int) (A0_2 : Option Addr) (c0_2 : Nat) (l0_2 : List Int) (a1 : Int) (r : Int) (w : World) (hr0_2 : Kd.C (Kd.int .i64) w A0_2 l0_2.length l0_2) (hc0_2 : l0_2.length ≤ c0_2) (h : codewrightref04_In.f k a0_0 a0_1 l0_2 a1 = some r) :
  Calls Try.prog 80 #[.agg #[.int .i64 a0_0, .int .i64 a0_1, .slice A0_2 l0_2.length c0_2], .int .i64 a1] w fun e w' => e = .returned (.int .i64 r) ∧ Below w.heap.size w w' := by
 have hu33 := Try.underlying33; have HR0_2 := Aside0.mk hr0_2; have HC0_2 := Aside0.mk hc0_2; clear hr0_2 hc0_2; have HB := Aside0.mk (Below.refl w.heap.size w); have H : ((codewrightref04_Is.f k a0_0 a0_1 l0_2 a1).bind fun t313 => (if t313 = true then (some a1) else (some 0))) = some r := h; clear h; replace H := bz H; obtain ⟨t313, A3, H⟩ := H
 by_cases c4 : t313 = true
 ·subst c4; have H1 : (some a1) = some r := by rw [if_pos rfl] at H; exact H
  clear H; have H := H1; clear H1; obtain rfl := Option.some.inj H; go_enter Try.func80, Try.ntmps80; go_wp2_with (first | ((with_reducible refine gate_dst (N := 2) rfl ?_); refine bx (cs := #[.int .i64 a0_0, .int .i64 a0_1, .slice A0_2 l0_2.length c0_2]) (t := 33) ?_; intro gb312 hg w5 hbox hb; have BK312 := Aside0.mk (hbox); have GW312 := Aside0.mk ((by rw [hg]; exact bsz : w.heap.size ≤ gb312)); have GE312 := Aside0.mk ((by rw [hg]; exact bsz : w.heap.size ≤ gb312)); replace HB := bst hb; clear hb hbox hg; obtain ⟨hcz6_0, hcz6_1, hcz6_2, hfz6_0, hfz6_1, hfz6_2⟩ := b3 BK312) | ((with_reducible refine gate_callee (f := 114) rfl ?_); refine gl (some 7) Try.func114 #[.agg #[.int .i64 a0_0, .int .i64 a0_1, .slice A0_2 l0_2.length c0_2], .int .i64 a1] ?_; (with_reducible refine (codewrightref04_Is.calls k a0_0 a0_1 _ _ l0_2 a1 true _ ?side1 ?side2 A3.out).mono ?_); (case side1 => exact cb HR0_2); (case side2 => exact HC0_2.out); rintro e w7 ⟨rfl, hb⟩; refine ⟨_, rfl, ?_⟩; replace BK312 := Aside0.mk (blk_below (g := gb312) (o := .cells #[.int .i64 a0_0, .int .i64 a0_1, .slice A0_2 l0_2.length c0_2] 33 (0, 0)) (ba BK312) hb); replace HB := bst hb))
  go_ret; exact ⟨ren, bel⟩
 ·replace c4 := Bool.eq_false_iff.mpr c4; subst c4; have H1 : (some 0) = some r := by rw [if_neg (show ¬ (false = true) by decide)] at H; exact H
  clear H; have H := H1; clear H1; obtain rfl := Option.some.inj H; go_enter Try.func80, Try.ntmps80; go_wp2_with (first | ((with_reducible refine gate_dst (N := 2) rfl ?_); refine bx (cs := #[.int .i64 a0_0, .int .i64 a0_1, .slice A0_2 l0_2.length c0_2]) (t := 33) ?_; intro gb312 hg w8 hbox hb; have BK312 := Aside0.mk (hbox); have GW312 := Aside0.mk ((by rw [hg]; exact bsz : w.heap.size ≤ gb312)); have GE312 := Aside0.mk ((by rw [hg]; exact bsz : w.heap.size ≤ gb312)); replace HB := bst hb; clear hb hbox hg; obtain ⟨hcz9_0, hcz9_1, hcz9_2, hfz9_0, hfz9_1, hfz9_2⟩ := b3 BK312) | ((with_reducible refine gate_callee (f := 114) rfl ?_); refine gl (some 7) Try.func114 #[.agg #[.int .i64 a0_0, .int .i64 a0_1, .slice A0_2 l0_2.length c0_2], .int .i64 a1] ?_; (with_reducible refine (codewrightref04_Is.calls k a0_0 a0_1 _ _ l0_2 a1 false _ ?side1 ?side2 A3.out).mono ?_); (case side1 => exact cb HR0_2); (case side2 => exact HC0_2.out); rintro e w10 ⟨rfl, hb⟩; refine ⟨_, rfl, ?_⟩; replace BK312 := Aside0.mk (blk_below (g := gb312) (o := .cells #[.int .i64 a0_0, .int .i64 a0_1, .slice A0_2 l0_2.length c0_2] 33 (0, 0)) (ba BK312) hb); replace HB := bst hb))
  go_ret; exact ⟨ren, bel⟩
mutual
def codewrightref05_Canon.l0 : Nat → List Int → Int → Int → Int → Int → List Int → Option (List Int)
 | 0, _, _, _, _, _, _ => none
 | k + 1, x1, x5, x6, x315000, x315001, x315002 => if x6 < (x1.length : Int) then (if 0 ≤ x6 then ((codewrightref04_In.f k x315000 x315001 x315002 (rd x1 x6)).bind fun t316 => (if t316 = 0 then (codewrightref05_Canon.l0 k x1 x5 (wrap64 (x6 + 1)) x315000 x315001 x315002) else (codewrightref05_Canon.l0 k x1 (wrap64 (x6 + 1)) (wrap64 (x6 + 1)) x315000 x315001 x315002))) else (none)) else (if 0 ≤ x5 then (if (x5 : Int).toNat ≤ 35184372088832 then (codewrightref05_Canon.l1 k x1 x5 (List.replicate (x5 : Int).toNat 0) 0 x315000 x315001 x315002) else (none)) else (none))
def codewrightref05_Canon.l1 : Nat → List Int → Int → List Int → Int → Int → Int → List Int → Option (List Int)
 | 0, _, _, _, _, _, _, _ => none
 | k + 1, x1, x5, x7, x8, x315000, x315001, x315002 => if x8 < x5 then (if 0 ≤ x8 then (if x8 < (x1.length : Int) then ((codewrightref04_In.f k x315000 x315001 x315002 (rd x1 x8)).bind fun t321 => (if x8 < (x7.length : Int) then (codewrightref05_Canon.l1 k x1 x5 (x7.set (x8 : Int).toNat t321) (wrap64 (x8 + 1)) x315000 x315001 x315002) else (none))) else (none)) else (none)) else (some x7)
end
def codewrightref05_Canon.f (k : Nat) (a0_0 : Int) (a0_1 : Int) (l0_2 : List Int) (l1 : List Int) : Option (List Int) := codewrightref05_Canon.l0 k l1 0 0 a0_0 a0_1 l0_2
def codewrightref05_Canon.T11 : Bool × List (List Nat × List Nat) := (true, [([], []), ([], []), ([], []), ([], []), ([], []), ([3, 4], [3, 4]), ([5], [5]), ([2, 6], [2, 6]), ([0, 1, 0, 1, 2, 3, 4, 5, 6, 7], [0, 1]), ([8, 7, 7, 0, 1, 2, 3, 4, 5, 6, 7], [7, 8])])
def codewrightref05_Canon.B11 : List Nat := [0, 0, 0, 0, 0, 24, 56, 124, 255, 511]
theorem codewrightref05_Canon.tab11 : rtab .any (opsOf Try.f39 11) = codewrightref05_Canon.T11 := by kernel_rfl
theorem codewrightref05_Canon.bits11 : waitsOk codewrightref05_Canon.T11.2 codewrightref05_Canon.B11 = true := by kernel_rfl
theorem codewrightref05_Canon.calls (k : Nat) (a0_0 : Int) (a0_1 : Int) (A0_2 : Option Addr) (c0_2 : Nat) (l0_2 : List Int) (A1 : Option Addr) (c1 : Nat) (l1 : List Int) (r : List Int) (w : World) (hr0_2 : Kd.C (Kd.int .i64) w A0_2 l0_2.length l0_2) (hc0_2 : l0_2.length ≤ c0_2) (hr1 : Kd.C (Kd.int .i64) w A1 l1.length l1) (hc1 : l1.length ≤ c1) (h : codewrightref05_Canon.f k a0_0 a0_1 l0_2 l1 = some r) :
  Calls Try.prog 39 #[.agg #[.int .i64 a0_0, .int .i64 a0_1, .slice A0_2 l0_2.length c0_2], .slice A1 l1.length c1] w fun e w' => ∃ v0_ : Value, e = .returned (v0_) ∧ Kd.R (Kd.int .i64) 3 w' w.heap.size (fun _ => True) v0_ r ∧ Below w.heap.size w w' := by
 have hu33 := Try.underlying33; have HR0_2 := Aside0.mk hr0_2; have HC0_2 := Aside0.mk hc0_2; clear hr0_2 hc0_2; have HR1 := Aside0.mk hr1; have HC1 := Aside0.mk hc1; clear hr1 hc1; have HB := Aside0.mk (Below.refl w.heap.size w); have H : (codewrightref05_Canon.l0 k l1 0 0 a0_0 a0_1 l0_2) = some r := h; clear h; have H' := Aside0.mk H; clear H; go_enter Try.func39, Try.ntmps39; go_wp2_with (first | ((with_reducible refine gate_dst (N := 2) rfl ?_); refine bx (cs := #[.int .i64 a0_0, .int .i64 a0_1, .slice A0_2 l0_2.length c0_2]) (t := 33) ?_; intro gb314 hg w3 hbox hb; have BK314 := Aside0.mk (hbox); have GW314 := Aside0.mk ((by rw [hg]; exact bsz : w.heap.size ≤ gb314)); have GE314 := Aside0.mk ((by rw [hg]; exact bsz : w.heap.size ≤ gb314)); replace HB := bst hb; clear hb hbox hg))
 go_loopg [5, 6] k (fun kq v5 v6 w' => ∃ (x5_1 : Int) (x6_1 : Int), v5 = .int .i64 x5_1 ∧ v6 = .int .i64 x6_1 ∧ Aside0 (codewrightref05_Canon.l0 kq l1 x5_1 x6_1 a0_0 a0_1 l0_2 = some r) ∧ Aside0 (kq ≤ k) ∧ Aside0 (w'.heap[gb314]? = some (.cells #[.int .i64 a0_0, .int .i64 a0_1, (.slice A0_2 l0_2.length c0_2)] 33 (0, 0))) ∧ Aside0 (Below w.heap.size w w'))
 case atStart => exact ⟨(0), (0), rs, rs, H', ⟨Nat.le_refl _⟩, ⟨ba BK314⟩, ⟨bel⟩⟩
 clear H'; obtain ⟨x5_1, x6_1, rfl, rfl, HA, HK1, BK314, HB⟩ := hrel; rcases gk with _ | k1
 ·exact absurd HA.out (by simp [codewrightref05_Canon.l0])
 have H := HA.out; clear HA; simp only [codewrightref05_Canon.l0] at H
 by_cases c4 : x6_1 < (l1.length : Int)
 ·rw [if_pos c4] at H; have c4b0 : decide (x6_1 < (l1.length : Int)) = true := decide_eq_true c4; clear c4; replace H := ifd H; obtain ⟨c5b0, H⟩ := H; replace H := bz H; obtain ⟨t316, A6, H⟩ := H
  by_cases c7 : t316 = 0
  ·rw [if_pos c7] at H; have c7b0 : (t316 == 0) = true := beq_iff_eq.mpr c7; have c7b1 : (t316 != 0) = false := bne_eq_false_iff_eq.mpr c7; clear c7; have H' := Aside0.mk H; clear H; try go_wp2
   replace BK314 := Aside0.mk (blk_drew BK314.out); replace HB := Aside0.mk (below_drew1 HB.out); have p315 : 0 ≤ (x6_1 : Int) := oda; have q315 : x6_1 < (l1.length : Int) := oda; obtain ⟨ad315, e315, hx315_0⟩ := Kd.at_int HR1.out x6_1 p315 q315; have hw315_0 := hx315_0; cases e315
   (try replace hx315_0 := hbc hx315_0)
   replace p315 := eq_true p315; replace q315 := eq_true q315; refine start_ (n := 7) (S := fun w' => w'.cell? ⟨gb314, 0, none⟩ = some (.int .i64 a0_0) ∧ w'.cell? ⟨gb314, 1, none⟩ = some (.int .i64 a0_1) ∧ w'.cell? ⟨gb314, 2, none⟩ = some (.slice A0_2 l0_2.length c0_2) ∧ w'.cell? (ad315.add (x6_1).toNat) = some (.int .i64 (rd l1 x6_1))) (ds := []) (bm 7 0) (by kernel_rfl) rfl rfl ⟨bc BK314 0, bc BK314 1, bc BK314 2, (hbc hw315_0)⟩ (fun hHeld => ?_); generalize wr.drew = w8 at BK314 HB hx315_0 hHeld ⊢; refine pure_ (i := 1) (N := some 16) (v := ?_) (a' := ?_) (bm 7 2) rfl rfl (by kernel_rfl) (fun _ _ _ h => h) (Or.inl ⟨by rfl, ?_⟩) ?_ ?_; rotate_left
   ·intro w'; go_simp; with_reducible rfl
   rotate_left
   ·simp only [Act.put, List.setIfInBounds_toArray, List.set_cons_zero, List.set_cons_succ, i64_w, i32_w]; rfl
   refine pure_ (i := 2) (N := some 17) (v := ?_) (a' := ?_) (bm 7 6) rfl rfl (by kernel_rfl) (fun _ _ _ h => h) (Or.inl ⟨by rfl, ?_⟩) ?_ ?_; rotate_left
   ·intro w'; go_simp; with_reducible rfl
   rotate_left
   ·simp only [Act.put, List.setIfInBounds_toArray, List.set_cons_zero, List.set_cons_succ, i64_w, i32_w]; rfl
   refine pure_ (i := 3) (N := some 18) (v := ?_) (a' := ?_) (bm 7 14) rfl rfl (by kernel_rfl) (fun _ _ _ h => h) (Or.inl ⟨by rfl, ?_⟩) ?_ ?_; rotate_left
   ·intro w'; go_simp; with_reducible rfl
   rotate_left
   ·simp only [Act.put, List.setIfInBounds_toArray, List.set_cons_zero, List.set_cons_succ, i64_w, i32_w]; rfl
   refine take_ (i := 0) (N := some 15) (v := ?_) (a' := ?_) (bm 7 15) rfl rfl (by kernel_rfl) (fun _ _ _ h => h) (Or.inl ⟨by rfl, ?_⟩) hHeld ?_ ?_; rotate_left
   ·rintro w' ⟨s0, s1, s2, s3⟩; go_simp; with_reducible rfl
   rotate_left
   ·simp only [Act.put, List.setIfInBounds_toArray, List.set_cons_zero, List.set_cons_succ, i64_w, i32_w]; rfl
   refine take_ (i := 4) (N := some 19) (v := ?_) (a' := ?_) (bm 7 31) rfl rfl (by kernel_rfl) (fun _ _ _ h => h) (Or.inl ⟨by rfl, ?_⟩) hHeld ?_ ?_; rotate_left
   ·rintro w' ⟨s0, s1, s2, s3⟩; go_simp; with_reducible rfl
   rotate_left
   ·simp only [Act.put, List.setIfInBounds_toArray, List.set_cons_zero, List.set_cons_succ, i64_w, i32_w]; rfl
   refine one_ (i := 5) (N := some 20) (bm 7 63) rfl rfl (by kernel_rfl) (by decide) fun K hK => ?_
   refine gs Try.func80 #[.agg #[.int .i64 a0_0, .int .i64 a0_1, .slice A0_2 l0_2.length c0_2], .int .i64 (rd l1 x6_1)] ?_; with_reducible refine (codewrightref04_In.calls k1 a0_0 a0_1 _ _ l0_2 (rd l1 x6_1) t316 _ ?side1 ?side2 A6.out).mono ?_
   (case side1 => exact cb HR0_2)
   (case side2 => exact HC0_2.out)
   rintro e w9 ⟨rfl, hb⟩; refine ⟨_, rfl, ?_⟩; replace BK314 := Aside0.mk (blk_below (g := gb314) (o := .cells #[.int .i64 a0_0, .int .i64 a0_1, .slice A0_2 l0_2.length c0_2] 33 (0, 0)) (ba BK314) hb); replace HB := bst hb; refine hK.out _ _ ⟨bc BK314 0, bc BK314 1, bc BK314 2, (hbc hw315_0)⟩ (fun hHeld => ?_); clear hK K; refine nmz 20 ?_; refine pure_ (i := 6) (N := some 21) (v := ?_) (a' := ?_) (bm 7 127) rfl rfl (by kernel_rfl) (fun _ _ _ h => h) (Or.inl ⟨by rfl, ?_⟩) ?_ ?_; rotate_left
   ·intro w'; go_simp; with_reducible rfl
   rotate_left
   ·simp only [Act.put, List.setIfInBounds_toArray, List.set_cons_zero, List.set_cons_succ, i64_w, i32_w]; rfl
   refine done_ (by kernel_rfl) ?_; try go_wp2
   go_roundg k1
   case measure => have := HK1.out; omega
   case rel => exact ⟨(x5_1), (wrap64 (x6_1 + 1)), rs, rs, H', ⟨by have := HK1.out; omega⟩, ⟨ba BK314⟩, ⟨bel⟩⟩
  rw [if_neg c7] at H; have c7b0 : (t316 == 0) = false := beq_eq_false_iff_ne.mpr c7; have c7b1 : (t316 != 0) = true := bne_iff_ne.mpr c7; have H' := Aside0.mk H; clear H; try go_wp2
  replace BK314 := Aside0.mk (blk_drew BK314.out); replace HB := Aside0.mk (below_drew1 HB.out); have p315 : 0 ≤ (x6_1 : Int) := oda; have q315 : x6_1 < (l1.length : Int) := oda; obtain ⟨ad315, e315, hx315_0⟩ := Kd.at_int HR1.out x6_1 p315 q315; have hw315_0 := hx315_0; cases e315
  (try replace hx315_0 := hbc hx315_0)
  replace p315 := eq_true p315; replace q315 := eq_true q315; refine start_ (n := 7) (S := fun w' => w'.cell? ⟨gb314, 0, none⟩ = some (.int .i64 a0_0) ∧ w'.cell? ⟨gb314, 1, none⟩ = some (.int .i64 a0_1) ∧ w'.cell? ⟨gb314, 2, none⟩ = some (.slice A0_2 l0_2.length c0_2) ∧ w'.cell? (ad315.add (x6_1).toNat) = some (.int .i64 (rd l1 x6_1))) (ds := []) (bm 7 0) (by kernel_rfl) rfl rfl ⟨bc BK314 0, bc BK314 1, bc BK314 2, (hbc hw315_0)⟩ (fun hHeld => ?_); generalize wr.drew = w10 at BK314 HB hx315_0 hHeld ⊢; refine pure_ (i := 1) (N := some 16) (v := ?_) (a' := ?_) (bm 7 2) rfl rfl (by kernel_rfl) (fun _ _ _ h => h) (Or.inl ⟨by rfl, ?_⟩) ?_ ?_; rotate_left
  ·intro w'; go_simp; with_reducible rfl
  rotate_left
  ·simp only [Act.put, List.setIfInBounds_toArray, List.set_cons_zero, List.set_cons_succ, i64_w, i32_w]; rfl
  refine pure_ (i := 2) (N := some 17) (v := ?_) (a' := ?_) (bm 7 6) rfl rfl (by kernel_rfl) (fun _ _ _ h => h) (Or.inl ⟨by rfl, ?_⟩) ?_ ?_; rotate_left
  ·intro w'; go_simp; with_reducible rfl
  rotate_left
  ·simp only [Act.put, List.setIfInBounds_toArray, List.set_cons_zero, List.set_cons_succ, i64_w, i32_w]; rfl
  refine pure_ (i := 3) (N := some 18) (v := ?_) (a' := ?_) (bm 7 14) rfl rfl (by kernel_rfl) (fun _ _ _ h => h) (Or.inl ⟨by rfl, ?_⟩) ?_ ?_; rotate_left
  ·intro w'; go_simp; with_reducible rfl
  rotate_left
  ·simp only [Act.put, List.setIfInBounds_toArray, List.set_cons_zero, List.set_cons_succ, i64_w, i32_w]; rfl
  refine take_ (i := 0) (N := some 15) (v := ?_) (a' := ?_) (bm 7 15) rfl rfl (by kernel_rfl) (fun _ _ _ h => h) (Or.inl ⟨by rfl, ?_⟩) hHeld ?_ ?_; rotate_left
  ·rintro w' ⟨s0, s1, s2, s3⟩; go_simp; with_reducible rfl
  rotate_left
  ·simp only [Act.put, List.setIfInBounds_toArray, List.set_cons_zero, List.set_cons_succ, i64_w, i32_w]; rfl
  refine take_ (i := 4) (N := some 19) (v := ?_) (a' := ?_) (bm 7 31) rfl rfl (by kernel_rfl) (fun _ _ _ h => h) (Or.inl ⟨by rfl, ?_⟩) hHeld ?_ ?_; rotate_left
  ·rintro w' ⟨s0, s1, s2, s3⟩; go_simp; with_reducible rfl
  rotate_left
  ·simp only [Act.put, List.setIfInBounds_toArray, List.set_cons_zero, List.set_cons_succ, i64_w, i32_w]; rfl
  refine one_ (i := 5) (N := some 20) (bm 7 63) rfl rfl (by kernel_rfl) (by decide) fun K hK => ?_
  refine gs Try.func80 #[.agg #[.int .i64 a0_0, .int .i64 a0_1, .slice A0_2 l0_2.length c0_2], .int .i64 (rd l1 x6_1)] ?_; with_reducible refine (codewrightref04_In.calls k1 a0_0 a0_1 _ _ l0_2 (rd l1 x6_1) t316 _ ?side1 ?side2 A6.out).mono ?_
  (case side1 => exact cb HR0_2)
  (case side2 => exact HC0_2.out)
  rintro e w11 ⟨rfl, hb⟩; refine ⟨_, rfl, ?_⟩; replace BK314 := Aside0.mk (blk_below (g := gb314) (o := .cells #[.int .i64 a0_0, .int .i64 a0_1, .slice A0_2 l0_2.length c0_2] 33 (0, 0)) (ba BK314) hb); replace HB := bst hb; refine hK.out _ _ ⟨bc BK314 0, bc BK314 1, bc BK314 2, (hbc hw315_0)⟩ (fun hHeld => ?_); clear hK K; refine nmz 20 ?_; refine pure_ (i := 6) (N := some 21) (v := ?_) (a' := ?_) (bm 7 127) rfl rfl (by kernel_rfl) (fun _ _ _ h => h) (Or.inl ⟨by rfl, ?_⟩) ?_ ?_; rotate_left
  ·intro w'; go_simp; with_reducible rfl
  rotate_left
  ·simp only [Act.put, List.setIfInBounds_toArray, List.set_cons_zero, List.set_cons_succ, i64_w, i32_w]; rfl
  refine done_ (by kernel_rfl) ?_; try go_wp2
  go_roundg k1
  case measure => have := HK1.out; omega
  case rel => exact ⟨(wrap64 (x6_1 + 1)), (wrap64 (x6_1 + 1)), rs, rs, H', ⟨by have := HK1.out; omega⟩, ⟨ba BK314⟩, ⟨bel⟩⟩
 rw [if_neg c4] at H; have c4b0 : decide (x6_1 < (l1.length : Int)) = false := decide_eq_false c4; clear c4; replace H := ift H; obtain ⟨c12b0, c12b1, H⟩ := H; replace H := ift H; obtain ⟨c13b0, c13b1, H⟩ := H; generalize hy317 : ((List.replicate (x5_1 : Int).toNat 0) : List Int) = y317 at H; have Ny317 := Aside0.mk hy317.symm; clear hy317; have H' := Aside0.mk H; clear H; go_wp2_with (first | ((with_reducible refine gate_dst (N := 25) rfl ?_); refine Kd.R_make (Kd.int .i64) _ 3 rfl (N := 25) rfl 31 _ _ rfl x5_1 rfl rfl Try.underlying31 (.int .i64 0) 8 info3 rfl (by decide) (by omega) 0 (ok := fun _ => True) (okp := fun _ => True) rfl (fun _ hk => hk) trivial (oda) (Nat.le_trans (Nat.mul_le_mul_right _ (oda : x5_1.toNat ≤ 35184372088832)) (by omega)) (Below.refl _ _) (Nat.le_refl _) ?_; intro v318 w14 ho15 hb hg_ hnew_; clear hg_ hnew_; (first | rw [← Ny317.out] at ho15 | (simp only [Int.reduceToNat] at ho15; rw [← Ny317.out] at ho15)); have HO319 := Aside0.mk (Kd.R_lower ho15 bsz); replace BK314 := Aside0.mk (blk_below (g := gb314) (o := .cells #[.int .i64 a0_0, .int .i64 a0_1, .slice A0_2 l0_2.length c0_2] 33 (0, 0)) (ba BK314) hb); replace HB := bst hb; clear hb ho15))
 go_loopg [8] k1 (fun kq v8 w' => ∃ (x7_2 : List Int) (x8_2 : Int), v8 = .int .i64 x8_2 ∧ Aside0 (codewrightref05_Canon.l1 kq l1 x5_1 x7_2 x8_2 a0_0 a0_1 l0_2 = some r) ∧ Aside0 (kq ≤ k1) ∧ Aside0 (Kd.R (Kd.int .i64) 3 w' w.heap.size (fun _ => True) v318 x7_2) ∧ Aside0 (w'.heap[gb314]? = some (.cells #[.int .i64 a0_0, .int .i64 a0_1, (.slice A0_2 l0_2.length c0_2)] 33 (0, 0))) ∧ Aside0 (Below w.heap.size w w'))
 case atStart => exact ⟨(y317), (0), rs, H', ⟨Nat.le_refl _⟩, ⟨ra HO319⟩, ⟨ba BK314⟩, ⟨bel⟩⟩
 clear H'; obtain ⟨x7_2, x8_2, rfl, HA, HK2, HO_7, BK314, HB⟩ := hrel; rcases gk with _ | k2
 ·exact absurd HA.out (by simp [codewrightref05_Canon.l1])
 have H := HA.out; clear HA; simp only [codewrightref05_Canon.l1] at H
 by_cases c16 : x8_2 < x5_1
 ·rw [if_pos c16] at H; have c16b0 : decide (x8_2 < x5_1) = true := decide_eq_true c16; clear c16; replace H := ifd H; obtain ⟨c17b0, H⟩ := H; replace H := ifd H; obtain ⟨c18b0, H⟩ := H; replace H := bz H; obtain ⟨t321, A19, H⟩ := H; replace H := ifd H; obtain ⟨c20b0, H⟩ := H; generalize hy322 : ((x7_2.set (x8_2 : Int).toNat t321) : List Int) = y322 at H; have Ny322 := Aside0.mk hy322.symm; clear hy322; have H' := Aside0.mk H; clear H; try go_wp2
  replace HO_7 := Aside0.mk (Kd.R_drew HO_7.out); replace BK314 := Aside0.mk (blk_drew BK314.out); replace HB := Aside0.mk (below_drew1 HB.out); have p320 : 0 ≤ (x8_2 : Int) := oda; have q320 : x8_2 < (l1.length : Int) := oda; obtain ⟨ad320, e320, hx320_0⟩ := Kd.at_int HR1.out x8_2 p320 q320; have hw320_0 := hx320_0; cases e320
  (try replace hx320_0 := hbc hx320_0)
  replace p320 := eq_true p320; replace q320 := eq_true q320; refine st_ (S := fun w' => w'.cell? ⟨gb314, 0, none⟩ = some (.int .i64 a0_0) ∧ w'.cell? ⟨gb314, 1, none⟩ = some (.int .i64 a0_1) ∧ w'.cell? ⟨gb314, 2, none⟩ = some (.slice A0_2 l0_2.length c0_2) ∧ w'.cell? (ad320.add (x8_2).toNat) = some (.int .i64 (rd l1 x8_2))) (ds := [9]) 10 codewrightref05_Canon.tab11 codewrightref05_Canon.bits11 ⟨bc BK314 0, bc BK314 1, bc BK314 2, (hbc hw320_0)⟩ fun hHeld HT_ HW_ => ?_
  generalize wr.drew = w22 at HO_7 BK314 HB hx320_0 hHeld ⊢; refine pu 0 31 (bm 10 1) ?_; refine pu 1 32 (bm 10 3) ?_; refine pu 3 34 (bm 10 11) ?_; refine pu 4 35 (bm 10 27) ?_; refine pu 5 36 (bm 10 59) ?_; refine take_ (i := 2) (N := some 33) (v := ?_) (a' := ?_) (bm 10 63) rfl rfl (take_ofW HT_.out HW_.out (by kernel_rfl)) (fun _ _ _ h => h) (Or.inl ⟨by rfl, ?_⟩) hHeld ?_ ?_; rotate_left
  ·rintro w' ⟨s0, s1, s2, s3⟩; go_simp; with_reducible rfl
  rotate_left
  ·simp only [Act.put, List.setIfInBounds_toArray, List.set_cons_zero, List.set_cons_succ, i64_w, i32_w]; rfl
  refine take_ (i := 6) (N := some 37) (v := ?_) (a' := ?_) (bm 10 127) rfl rfl (take_ofW HT_.out HW_.out (by kernel_rfl)) (fun _ _ _ h => h) (Or.inl ⟨by rfl, ?_⟩) hHeld ?_ ?_; rotate_left
  ·rintro w' ⟨s0, s1, s2, s3⟩; go_simp; with_reducible rfl
  rotate_left
  ·simp only [Act.put, List.setIfInBounds_toArray, List.set_cons_zero, List.set_cons_succ, i64_w, i32_w]; rfl
  refine on 7 38 (bm 10 255) fun K hK => ?_
  refine gs Try.func80 #[.agg #[.int .i64 a0_0, .int .i64 a0_1, .slice A0_2 l0_2.length c0_2], .int .i64 (rd l1 x8_2)] ?_; with_reducible refine (codewrightref04_In.calls k2 a0_0 a0_1 _ _ l0_2 (rd l1 x8_2) t321 _ ?side1 ?side2 A19.out).mono ?_
  (case side1 => exact cb HR0_2)
  (case side2 => exact HC0_2.out)
  rintro e w23 ⟨rfl, hb⟩; refine ⟨_, rfl, ?_⟩; replace HO_7 := Aside0.mk (Kd.R_below (ra HO_7) hb); replace BK314 := Aside0.mk (blk_below (g := gb314) (o := .cells #[.int .i64 a0_0, .int .i64 a0_1, .slice A0_2 l0_2.length c0_2] 33 (0, 0)) (ba BK314) hb); replace HB := bst hb; have p21 : 0 ≤ (x8_2 : Int) := oda; have q21 : (x8_2 : Int) < ((x7_2.length : Int) : Int) := oda; obtain ⟨go21, co21, eo21, gb21, gl21, cl21, HG21⟩ := Kd.R_form HO_7.out (by omega); (first | cases eo21 | (injection eo21 with ea_ en_ ec_; (first | subst ea_ | (injection ea_ with ea_; subst ea_)); subst ec_; clear en_))
  have GB21 := Aside0.mk gb21; have GG21 := Aside0.mk HG21; clear gb21 gl21 HG21; obtain ⟨hx21_0, hf21_0⟩ := Kd.R_celln 0 HO_7.out (x8_2 : Int) p21 q21; replace p21 := eq_true p21; replace q21 := eq_true q21; have HP24 := Kd.R_putn HO_7.out (x8_2 : Int) t321; rw [← Ny322.out] at HP24; have HQ24 := Aside0.mk HP24; clear HP24; refine hK.out _ _ ⟨bc BK314 0, bc BK314 1, bc BK314 2, (hbc hw320_0)⟩ (fun hHeld => ?_); clear hK K; refine nmz 38 ?_; refine pu 8 39 (bm 10 511) ?_; refine last_ (i := 9) (N := none) (bm 10 1023) rfl rfl (one_of HT_.out (by kernel_rfl)) (by decide) fun K hK => ?_
  refine skip_ (w1 := ?_) (by rfl) rfl ?_ ?_; rotate_left
  ·go_simp; rfl
  refine hK.out _ _ ?_; clear hK K; refine dn ?_; try go_wp2
  go_roundg k2
  case measure => have := HK1.out; have := HK2.out; omega
  case rel => exact ⟨(y322), (wrap64 (x8_2 + 1)), rs, H', ⟨by have := HK1.out; have := HK2.out; omega⟩, ⟨ra HQ24⟩, ⟨by (with_reducible repeat (first | refine blk_drewN ?_ _ | refine blk_drew ?_ | refine blk_alloc ?_ _)); refine blk_far ?_ (by have h_ := Kd.R_ne HO_7.out BK314.out (by decide); intro e_; exact h_ (by rw [e_]; rfl)) _; exact ba BK314⟩, ⟨bel⟩⟩
 rw [if_neg c16] at H; have c16b0 : decide (x8_2 < x5_1) = false := decide_eq_false c16; clear c16; obtain rfl := Option.some.inj H; go_wp2; go_ret; exact ⟨_, ren, by (with_reducible repeat (first | apply Kd.R_alloc | apply Kd.R_drewN | apply Kd.R_drew)); exact HO_7.out, bel⟩
def codewrightref05_Degree.f (k : Nat) (a0_0 : Int) (a0_1 : Int) (l0_2 : List Int) (l1 : List Int) : Option (Int) := (codewrightref05_Canon.f k a0_0 a0_1 l0_2 l1).bind fun t324 => (some (wrap64 ((t324.length : Int) - 1)))
theorem codewrightref05_Degree.calls (k : Nat) (a0_0 : Int) (a0_1 : Int) (A0_2 : Option Addr) (c0_2 : Nat) (l0_2 : List Int) (A1 : Option Addr) (c1 : Nat) (l1 : List Int) (r : Int) (w : World) (hr0_2 : Kd.C (Kd.int .i64) w A0_2 l0_2.length l0_2) (hc0_2 : l0_2.length ≤ c0_2) (hr1 : Kd.C (Kd.int .i64) w A1 l1.length l1) (hc1 : l1.length ≤ c1) (h : codewrightref05_Degree.f k a0_0 a0_1 l0_2 l1 = some r) :
  Calls Try.prog 42 #[.agg #[.int .i64 a0_0, .int .i64 a0_1, .slice A0_2 l0_2.length c0_2], .slice A1 l1.length c1] w fun e w' => e = .returned (.int .i64 r) ∧ Below w.heap.size w w' := by
 have hu33 := Try.underlying33; have HR0_2 := Aside0.mk hr0_2; have HC0_2 := Aside0.mk hc0_2; clear hr0_2 hc0_2; have HR1 := Aside0.mk hr1; have HC1 := Aside0.mk hc1; clear hr1 hc1; have HB := Aside0.mk (Below.refl w.heap.size w); have H : ((codewrightref05_Canon.f k a0_0 a0_1 l0_2 l1).bind fun t324 => (some (wrap64 ((t324.length : Int) - 1)))) = some r := h; clear h; replace H := bz H; obtain ⟨t324, A3, H⟩ := H; obtain rfl := Option.some.inj H; go_enter Try.func42, Try.ntmps42; go_wp2_with (first | ((with_reducible refine gate_dst (N := 2) rfl ?_); refine bx (cs := #[.int .i64 a0_0, .int .i64 a0_1, .slice A0_2 l0_2.length c0_2]) (t := 33) ?_; intro gb323 hg w4 hbox hb; have BK323 := Aside0.mk (hbox); have GW323 := Aside0.mk ((by rw [hg]; exact bsz : w.heap.size ≤ gb323)); have GE323 := Aside0.mk ((by rw [hg]; exact bsz : w.heap.size ≤ gb323)); replace HB := bst hb; clear hb hbox hg; obtain ⟨hcz5_0, hcz5_1, hcz5_2, hfz5_0, hfz5_1, hfz5_2⟩ := b3 BK323) | ((with_reducible refine gate_callee (f := 39) rfl ?_); refine gl (some 7) Try.func39 #[.agg #[.int .i64 a0_0, .int .i64 a0_1, .slice A0_2 l0_2.length c0_2], .slice A1 l1.length c1] ?_; (with_reducible refine (codewrightref05_Canon.calls k a0_0 a0_1 _ _ l0_2 _ _ l1 t324 _ ?side1 ?side2 ?side3 ?side4 A3.out).mono ?_); (case side1 => exact cb HR0_2); (case side2 => exact HC0_2.out); (case side3 => exact cb HR1); (case side4 => exact HC1.out); rintro e w6 ⟨v325, rfl, ho0, hb⟩; refine ⟨_, rfl, ?_⟩; have HO326 := Aside0.mk (Kd.R_lower ho0 bsz); replace BK323 := Aside0.mk (blk_below (g := gb323) (o := .cells #[.int .i64 a0_0, .int .i64 a0_1, .slice A0_2 l0_2.length c0_2] 33 (0, 0)) (ba BK323) hb); replace HB := bst hb; obtain ⟨Ao7, co7, eo7⟩ := Kd.R_slice HO326.out; subst eo7))
 go_ret; exact ⟨ren, bel⟩
mutual
def codewrightref40_Canon.l0 : Nat → List (List Int) → Int → Int → Int → Int → List Int → Option ((List (List Int)))
 | 0, _, _, _, _, _, _ => none
 | k + 1, x1, x5, x6, x328000, x328001, x328002 => if x6 < (x1.length : Int) then (if 0 ≤ x6 then ((codewrightref05_Degree.f k x328000 x328001 x328002 (rd_L2 x1 x6)).bind fun t329 => (if t329 ≥ 0 then (codewrightref40_Canon.l0 k x1 (wrap64 (x6 + 1)) (wrap64 (x6 + 1)) x328000 x328001 x328002) else (codewrightref40_Canon.l0 k x1 x5 (wrap64 (x6 + 1)) x328000 x328001 x328002))) else (none)) else (if 0 ≤ x5 then (if (x5 : Int).toNat ≤ 11728124029610 then (codewrightref40_Canon.l1 k x1 x5 (List.replicate (x5 : Int).toNat []) 0 x328000 x328001 x328002) else (none)) else (none))
def codewrightref40_Canon.l1 : Nat → List (List Int) → Int → List (List Int) → Int → Int → Int → List Int → Option ((List (List Int)))
 | 0, _, _, _, _, _, _, _ => none
 | k + 1, x1, x5, x7, x8, x328000, x328001, x328002 => if x8 < x5 then (if 0 ≤ x8 then (if x8 < (x1.length : Int) then ((codewrightref05_Canon.f k x328000 x328001 x328002 (rd_L2 x1 x8)).bind fun t334 => (if x8 < (x7.length : Int) then (codewrightref40_Canon.l1 k x1 x5 (x7.set (x8 : Int).toNat t334) (wrap64 (x8 + 1)) x328000 x328001 x328002) else (none))) else (none)) else (none)) else (some x7)
end
def codewrightref40_Canon.f (k : Nat) (a0_0 : Int) (a0_1 : Int) (l0_2 : List Int) (l1 : List (List Int)) : Option ((List (List Int))) := codewrightref40_Canon.l0 k l1 0 0 a0_0 a0_1 l0_2
def codewrightref40_Canon.T11 : Bool × List (List Nat × List Nat) := (true, [([], []), ([], []), ([], []), ([], []), ([], []), ([3, 4], [3, 4]), ([5], [5]), ([2, 6], [2, 6]), ([0, 1, 0, 1, 2, 3, 4, 5, 6, 7], [0, 1]), ([8, 7, 7, 0, 1, 2, 3, 4, 5, 6, 7], [7, 8])])
def codewrightref40_Canon.B11 : List Nat := [0, 0, 0, 0, 0, 24, 56, 124, 255, 511]
theorem codewrightref40_Canon.tab11 : rtab .any (opsOf Try.f28 11) = codewrightref40_Canon.T11 := by kernel_rfl
theorem codewrightref40_Canon.bits11 : waitsOk codewrightref40_Canon.T11.2 codewrightref40_Canon.B11 = true := by kernel_rfl
theorem codewrightref40_Canon.calls (k : Nat) (a0_0 : Int) (a0_1 : Int) (A0_2 : Option Addr) (c0_2 : Nat) (l0_2 : List Int) (A1 : Option Addr) (c1 : Nat) (l1 : List (List Int)) (r : List (List Int)) (w : World) (hr0_2 : Kd.C (Kd.int .i64) w A0_2 l0_2.length l0_2) (hc0_2 : l0_2.length ≤ c0_2) (hr1 : Kd.C (Kd.slice 3 (Kd.int .i64)) w A1 l1.length l1) (hc1 : l1.length ≤ c1) (h : codewrightref40_Canon.f k a0_0 a0_1 l0_2 l1 = some r) :
  Calls Try.prog 28 #[.agg #[.int .i64 a0_0, .int .i64 a0_1, .slice A0_2 l0_2.length c0_2], .slice A1 l1.length c1] w fun e w' => ∃ v0_ : Value, e = .returned (v0_) ∧ Kd.N (Kd.slice 3 (Kd.int .i64)) 31 w' w.heap.size (fun k_ => (w.heap.size ≤ k_)) v0_ r ∧ Below w.heap.size w w' := by
 have hu33 := Try.underlying33; have HR0_2 := Aside0.mk hr0_2; have HC0_2 := Aside0.mk hc0_2; clear hr0_2 hc0_2; have HR1 := Aside0.mk hr1; have HC1 := Aside0.mk hc1; clear hr1 hc1; have HB := Aside0.mk (Below.refl w.heap.size w); have H : (codewrightref40_Canon.l0 k l1 0 0 a0_0 a0_1 l0_2) = some r := h; clear h; have H' := Aside0.mk H; clear H; go_enter Try.func28, Try.ntmps28; go_wp2_with (first | ((with_reducible refine gate_dst (N := 2) rfl ?_); refine bx (cs := #[.int .i64 a0_0, .int .i64 a0_1, .slice A0_2 l0_2.length c0_2]) (t := 33) ?_; intro gb327 hg w3 hbox hb; have BK327 := Aside0.mk (hbox); have GW327 := Aside0.mk ((by rw [hg]; exact bsz : w.heap.size ≤ gb327)); have GE327 := Aside0.mk ((by rw [hg]; exact bsz : w.heap.size ≤ gb327)); replace HB := bst hb; clear hb hbox hg))
 go_loopg [5, 6] k (fun kq v5 v6 w' => ∃ (x5_1 : Int) (x6_1 : Int), v5 = .int .i64 x5_1 ∧ v6 = .int .i64 x6_1 ∧ Aside0 (codewrightref40_Canon.l0 kq l1 x5_1 x6_1 a0_0 a0_1 l0_2 = some r) ∧ Aside0 (kq ≤ k) ∧ Aside0 (w'.heap[gb327]? = some (.cells #[.int .i64 a0_0, .int .i64 a0_1, (.slice A0_2 l0_2.length c0_2)] 33 (0, 0))) ∧ Aside0 (Below w.heap.size w w'))
 case atStart => exact ⟨(0), (0), rs, rs, H', ⟨Nat.le_refl _⟩, ⟨ba BK327⟩, ⟨bel⟩⟩
 clear H'; obtain ⟨x5_1, x6_1, rfl, rfl, HA, HK1, BK327, HB⟩ := hrel; rcases gk with _ | k1
 ·exact absurd HA.out (by simp [codewrightref40_Canon.l0])
 have H := HA.out; clear HA; simp only [codewrightref40_Canon.l0] at H
 by_cases c4 : x6_1 < (l1.length : Int)
 ·rw [if_pos c4] at H; have c4b0 : decide (x6_1 < (l1.length : Int)) = true := decide_eq_true c4; clear c4; replace H := ifd H; obtain ⟨c5b0, H⟩ := H; replace H := bz H; obtain ⟨t329, A6, H⟩ := H
  by_cases c7 : t329 ≥ 0
  ·rw [if_pos c7] at H; have c7b0 : decide (0 ≤ t329) = true := decide_eq_true c7; clear c7; have H' := Aside0.mk H; clear H; try go_wp2
   replace BK327 := Aside0.mk (blk_drew BK327.out); replace HB := Aside0.mk (below_drew1 HB.out); have p328 : 0 ≤ (x6_1 : Int) := oda; have q328 : x6_1 < (l1.length : Int) := oda; obtain ⟨ad328, A328_0, c328_0, e328, hx328_0, hl328_0, hi328_0⟩ := at_L2 HR1.out x6_1 p328 q328; have hw328_0 := hx328_0; cases e328
   (try replace hx328_0 := hbc hx328_0)
   have HR328_0 := Aside0.mk hi328_0; have HC328_0 := Aside0.mk hl328_0; clear hi328_0 hl328_0; replace p328 := eq_true p328; replace q328 := eq_true q328; refine start_ (n := 7) (S := fun w' => w'.cell? ⟨gb327, 0, none⟩ = some (.int .i64 a0_0) ∧ w'.cell? ⟨gb327, 1, none⟩ = some (.int .i64 a0_1) ∧ w'.cell? ⟨gb327, 2, none⟩ = some (.slice A0_2 l0_2.length c0_2) ∧ w'.cell? (ad328.add (x6_1).toNat) = some (.slice A328_0 (rd_L2 l1 x6_1).length c328_0)) (ds := []) (bm 7 0) (by kernel_rfl) rfl rfl ⟨bc BK327 0, bc BK327 1, bc BK327 2, (hbc hw328_0)⟩ (fun hHeld => ?_); generalize wr.drew = w8 at BK327 HB HR328_0 hx328_0 hHeld ⊢; refine pure_ (i := 1) (N := some 16) (v := ?_) (a' := ?_) (bm 7 2) rfl rfl (by kernel_rfl) (fun _ _ _ h => h) (Or.inl ⟨by rfl, ?_⟩) ?_ ?_; rotate_left
   ·intro w'; go_simp; with_reducible rfl
   rotate_left
   ·simp only [Act.put, List.setIfInBounds_toArray, List.set_cons_zero, List.set_cons_succ, i64_w, i32_w]; rfl
   refine pure_ (i := 2) (N := some 17) (v := ?_) (a' := ?_) (bm 7 6) rfl rfl (by kernel_rfl) (fun _ _ _ h => h) (Or.inl ⟨by rfl, ?_⟩) ?_ ?_; rotate_left
   ·intro w'; go_simp; with_reducible rfl
   rotate_left
   ·simp only [Act.put, List.setIfInBounds_toArray, List.set_cons_zero, List.set_cons_succ, i64_w, i32_w]; rfl
   refine pure_ (i := 3) (N := some 18) (v := ?_) (a' := ?_) (bm 7 14) rfl rfl (by kernel_rfl) (fun _ _ _ h => h) (Or.inl ⟨by rfl, ?_⟩) ?_ ?_; rotate_left
   ·intro w'; go_simp; with_reducible rfl
   rotate_left
   ·simp only [Act.put, List.setIfInBounds_toArray, List.set_cons_zero, List.set_cons_succ, i64_w, i32_w]; rfl
   refine take_ (i := 0) (N := some 15) (v := ?_) (a' := ?_) (bm 7 15) rfl rfl (by kernel_rfl) (fun _ _ _ h => h) (Or.inl ⟨by rfl, ?_⟩) hHeld ?_ ?_; rotate_left
   ·rintro w' ⟨s0, s1, s2, s3⟩; go_simp; with_reducible rfl
   rotate_left
   ·simp only [Act.put, List.setIfInBounds_toArray, List.set_cons_zero, List.set_cons_succ, i64_w, i32_w]; rfl
   refine take_ (i := 4) (N := some 19) (v := ?_) (a' := ?_) (bm 7 31) rfl rfl (by kernel_rfl) (fun _ _ _ h => h) (Or.inl ⟨by rfl, ?_⟩) hHeld ?_ ?_; rotate_left
   ·rintro w' ⟨s0, s1, s2, s3⟩; go_simp; with_reducible rfl
   rotate_left
   ·simp only [Act.put, List.setIfInBounds_toArray, List.set_cons_zero, List.set_cons_succ, i64_w, i32_w]; rfl
   refine one_ (i := 5) (N := some 20) (bm 7 63) rfl rfl (by kernel_rfl) (by decide) fun K hK => ?_
   refine gs Try.func42 #[.agg #[.int .i64 a0_0, .int .i64 a0_1, .slice A0_2 l0_2.length c0_2], .slice A328_0 (rd_L2 l1 x6_1).length c328_0] ?_; with_reducible refine (codewrightref05_Degree.calls k1 a0_0 a0_1 _ _ l0_2 _ _ (rd_L2 l1 x6_1) t329 _ ?side1 ?side2 ?side3 ?side4 A6.out).mono ?_
   (case side1 => exact cb HR0_2)
   (case side2 => exact HC0_2.out)
   (case side3 => exact cb HR328_0)
   (case side4 => exact HC328_0.out)
   rintro e w9 ⟨rfl, hb⟩; refine ⟨_, rfl, ?_⟩; replace BK327 := Aside0.mk (blk_below (g := gb327) (o := .cells #[.int .i64 a0_0, .int .i64 a0_1, .slice A0_2 l0_2.length c0_2] 33 (0, 0)) (ba BK327) hb); replace HB := bst hb; refine hK.out _ _ ⟨bc BK327 0, bc BK327 1, bc BK327 2, (hbc hw328_0)⟩ (fun hHeld => ?_); clear hK K; refine nmz 20 ?_; refine pure_ (i := 6) (N := some 21) (v := ?_) (a' := ?_) (bm 7 127) rfl rfl (by kernel_rfl) (fun _ _ _ h => h) (Or.inl ⟨by rfl, ?_⟩) ?_ ?_; rotate_left
   ·intro w'; go_simp; with_reducible rfl
   rotate_left
   ·simp only [Act.put, List.setIfInBounds_toArray, List.set_cons_zero, List.set_cons_succ, i64_w, i32_w]; rfl
   refine done_ (by kernel_rfl) ?_; try go_wp2
   go_roundg k1
   case measure => have := HK1.out; omega
   case rel => exact ⟨(wrap64 (x6_1 + 1)), (wrap64 (x6_1 + 1)), rs, rs, H', ⟨by have := HK1.out; omega⟩, ⟨ba BK327⟩, ⟨bel⟩⟩
  rw [if_neg c7] at H; have c7b0 : decide (0 ≤ t329) = false := decide_eq_false c7; clear c7; have H' := Aside0.mk H; clear H; try go_wp2
  replace BK327 := Aside0.mk (blk_drew BK327.out); replace HB := Aside0.mk (below_drew1 HB.out); have p328 : 0 ≤ (x6_1 : Int) := oda; have q328 : x6_1 < (l1.length : Int) := oda; obtain ⟨ad328, A328_0, c328_0, e328, hx328_0, hl328_0, hi328_0⟩ := at_L2 HR1.out x6_1 p328 q328; have hw328_0 := hx328_0; cases e328
  (try replace hx328_0 := hbc hx328_0)
  have HR328_0 := Aside0.mk hi328_0; have HC328_0 := Aside0.mk hl328_0; clear hi328_0 hl328_0; replace p328 := eq_true p328; replace q328 := eq_true q328; refine start_ (n := 7) (S := fun w' => w'.cell? ⟨gb327, 0, none⟩ = some (.int .i64 a0_0) ∧ w'.cell? ⟨gb327, 1, none⟩ = some (.int .i64 a0_1) ∧ w'.cell? ⟨gb327, 2, none⟩ = some (.slice A0_2 l0_2.length c0_2) ∧ w'.cell? (ad328.add (x6_1).toNat) = some (.slice A328_0 (rd_L2 l1 x6_1).length c328_0)) (ds := []) (bm 7 0) (by kernel_rfl) rfl rfl ⟨bc BK327 0, bc BK327 1, bc BK327 2, (hbc hw328_0)⟩ (fun hHeld => ?_); generalize wr.drew = w10 at BK327 HB HR328_0 hx328_0 hHeld ⊢; refine pure_ (i := 1) (N := some 16) (v := ?_) (a' := ?_) (bm 7 2) rfl rfl (by kernel_rfl) (fun _ _ _ h => h) (Or.inl ⟨by rfl, ?_⟩) ?_ ?_; rotate_left
  ·intro w'; go_simp; with_reducible rfl
  rotate_left
  ·simp only [Act.put, List.setIfInBounds_toArray, List.set_cons_zero, List.set_cons_succ, i64_w, i32_w]; rfl
  refine pure_ (i := 2) (N := some 17) (v := ?_) (a' := ?_) (bm 7 6) rfl rfl (by kernel_rfl) (fun _ _ _ h => h) (Or.inl ⟨by rfl, ?_⟩) ?_ ?_; rotate_left
  ·intro w'; go_simp; with_reducible rfl
  rotate_left
  ·simp only [Act.put, List.setIfInBounds_toArray, List.set_cons_zero, List.set_cons_succ, i64_w, i32_w]; rfl
  refine pure_ (i := 3) (N := some 18) (v := ?_) (a' := ?_) (bm 7 14) rfl rfl (by kernel_rfl) (fun _ _ _ h => h) (Or.inl ⟨by rfl, ?_⟩) ?_ ?_; rotate_left
  ·intro w'; go_simp; with_reducible rfl
  rotate_left
  ·simp only [Act.put, List.setIfInBounds_toArray, List.set_cons_zero, List.set_cons_succ, i64_w, i32_w]; rfl
  refine take_ (i := 0) (N := some 15) (v := ?_) (a' := ?_) (bm 7 15) rfl rfl (by kernel_rfl) (fun _ _ _ h => h) (Or.inl ⟨by rfl, ?_⟩) hHeld ?_ ?_; rotate_left
  ·rintro w' ⟨s0, s1, s2, s3⟩; go_simp; with_reducible rfl
  rotate_left
  ·simp only [Act.put, List.setIfInBounds_toArray, List.set_cons_zero, List.set_cons_succ, i64_w, i32_w]; rfl
  refine take_ (i := 4) (N := some 19) (v := ?_) (a' := ?_) (bm 7 31) rfl rfl (by kernel_rfl) (fun _ _ _ h => h) (Or.inl ⟨by rfl, ?_⟩) hHeld ?_ ?_; rotate_left
  ·rintro w' ⟨s0, s1, s2, s3⟩; go_simp; with_reducible rfl
  rotate_left
  ·simp only [Act.put, List.setIfInBounds_toArray, List.set_cons_zero, List.set_cons_succ, i64_w, i32_w]; rfl
  refine one_ (i := 5) (N := some 20) (bm 7 63) rfl rfl (by kernel_rfl) (by decide) fun K hK => ?_
  refine gs Try.func42 #[.agg #[.int .i64 a0_0, .int .i64 a0_1, .slice A0_2 l0_2.length c0_2], .slice A328_0 (rd_L2 l1 x6_1).length c328_0] ?_; with_reducible refine (codewrightref05_Degree.calls k1 a0_0 a0_1 _ _ l0_2 _ _ (rd_L2 l1 x6_1) t329 _ ?side1 ?side2 ?side3 ?side4 A6.out).mono ?_
  (case side1 => exact cb HR0_2)
  (case side2 => exact HC0_2.out)
  (case side3 => exact cb HR328_0)
  (case side4 => exact HC328_0.out)
  rintro e w11 ⟨rfl, hb⟩; refine ⟨_, rfl, ?_⟩; replace BK327 := Aside0.mk (blk_below (g := gb327) (o := .cells #[.int .i64 a0_0, .int .i64 a0_1, .slice A0_2 l0_2.length c0_2] 33 (0, 0)) (ba BK327) hb); replace HB := bst hb; refine hK.out _ _ ⟨bc BK327 0, bc BK327 1, bc BK327 2, (hbc hw328_0)⟩ (fun hHeld => ?_); clear hK K; refine nmz 20 ?_; refine pure_ (i := 6) (N := some 21) (v := ?_) (a' := ?_) (bm 7 127) rfl rfl (by kernel_rfl) (fun _ _ _ h => h) (Or.inl ⟨by rfl, ?_⟩) ?_ ?_; rotate_left
  ·intro w'; go_simp; with_reducible rfl
  rotate_left
  ·simp only [Act.put, List.setIfInBounds_toArray, List.set_cons_zero, List.set_cons_succ, i64_w, i32_w]; rfl
  refine done_ (by kernel_rfl) ?_; try go_wp2
  go_roundg k1
  case measure => have := HK1.out; omega
  case rel => exact ⟨(x5_1), (wrap64 (x6_1 + 1)), rs, rs, H', ⟨by have := HK1.out; omega⟩, ⟨ba BK327⟩, ⟨bel⟩⟩
 rw [if_neg c4] at H; have c4b0 : decide (x6_1 < (l1.length : Int)) = false := decide_eq_false c4; clear c4; replace H := ift H; obtain ⟨c12b0, c12b1, H⟩ := H; replace H := ift H; obtain ⟨c13b0, c13b1, H⟩ := H; generalize hy330 : ((List.replicate (x5_1 : Int).toNat []) : List (List Int)) = y330 at H; have Ny330 := Aside0.mk hy330.symm; clear hy330; have H' := Aside0.mk H; clear H; go_wp2_with (first | ((with_reducible refine gate_dst (N := 25) rfl ?_); refine Kd.N_make (Kd.slice 3 (Kd.int .i64)) _ 31 rfl (N' := 25) rfl 35 _ _ rfl x5_1 rfl rfl Try.underlying35 (.slice none 0 0) 24 info31 rfl (by decide) (by omega) [] (ok := fun k_ => wr.heap.size ≤ k_) (okp := fun _ => False) (Kd.FK_slice_mk (Nat.le_refl _) (Kd.F_nil _ _ _)) (fun _ hk => hk.elim) (Nat.le_refl _) (oda) (Nat.le_trans (Nat.mul_le_mul_right _ (oda : x5_1.toNat ≤ 11728124029610)) (by omega)) (Below.refl _ _) (Nat.le_refl _) ?_; intro v331 w14 ho15 hb hg_ hnew_; clear hg_ hnew_; (first | rw [← Ny330.out] at ho15 | (simp only [Int.reduceToNat] at ho15; rw [← Ny330.out] at ho15)); have HO332 := Aside0.mk (Kd.N_lower (Kd.N_mono (ok' := fun k_ => (w.heap.size ≤ k_) ∧ k_ ≠ gb327) ho15 (fun k_ hk_ => ⟨(Nat.le_trans bsz hk_), (Kd.freshB (g := gb327) (o := .cells #[.int .i64 a0_0, .int .i64 a0_1, .slice A0_2 l0_2.length c0_2] 33 (0, 0)) (ba BK327) k_ hk_)⟩)) bsz); replace BK327 := Aside0.mk (blk_below (g := gb327) (o := .cells #[.int .i64 a0_0, .int .i64 a0_1, .slice A0_2 l0_2.length c0_2] 33 (0, 0)) (ba BK327) hb); replace HB := bst hb; clear hb ho15))
 go_loopg [8] k1 (fun kq v8 w' => ∃ (x7_2 : List (List Int)) (x8_2 : Int), v8 = .int .i64 x8_2 ∧ Aside0 (codewrightref40_Canon.l1 kq l1 x5_1 x7_2 x8_2 a0_0 a0_1 l0_2 = some r) ∧ Aside0 (kq ≤ k1) ∧ Aside0 (Kd.N (Kd.slice 3 (Kd.int .i64)) 31 w' w.heap.size (fun k_ => (w.heap.size ≤ k_) ∧ k_ ≠ gb327) v331 x7_2) ∧ Aside0 (w'.heap[gb327]? = some (.cells #[.int .i64 a0_0, .int .i64 a0_1, (.slice A0_2 l0_2.length c0_2)] 33 (0, 0))) ∧ Aside0 (Below w.heap.size w w'))
 case atStart => exact ⟨(y330), (0), rs, H', ⟨Nat.le_refl _⟩, ⟨na HO332⟩, ⟨ba BK327⟩, ⟨bel⟩⟩
 clear H'; obtain ⟨x7_2, x8_2, rfl, HA, HK2, HO_7, BK327, HB⟩ := hrel; rcases gk with _ | k2
 ·exact absurd HA.out (by simp [codewrightref40_Canon.l1])
 have H := HA.out; clear HA; simp only [codewrightref40_Canon.l1] at H
 by_cases c16 : x8_2 < x5_1
 ·rw [if_pos c16] at H; have c16b0 : decide (x8_2 < x5_1) = true := decide_eq_true c16; clear c16; replace H := ifd H; obtain ⟨c17b0, H⟩ := H; replace H := ifd H; obtain ⟨c18b0, H⟩ := H; replace H := bz H; obtain ⟨t334, A19, H⟩ := H; replace H := ifd H; obtain ⟨c20b0, H⟩ := H; generalize hy337 : ((x7_2.set (x8_2 : Int).toNat t334) : List (List Int)) = y337 at H; have Ny337 := Aside0.mk hy337.symm; clear hy337; have H' := Aside0.mk H; clear H; try go_wp2
  replace HO_7 := Aside0.mk (Kd.N_drew HO_7.out); replace BK327 := Aside0.mk (blk_drew BK327.out); replace HB := Aside0.mk (below_drew1 HB.out); have p333 : 0 ≤ (x8_2 : Int) := oda; have q333 : x8_2 < (l1.length : Int) := oda; obtain ⟨ad333, A333_0, c333_0, e333, hx333_0, hl333_0, hi333_0⟩ := at_L2 HR1.out x8_2 p333 q333; have hw333_0 := hx333_0; cases e333
  (try replace hx333_0 := hbc hx333_0)
  have HR333_0 := Aside0.mk hi333_0; have HC333_0 := Aside0.mk hl333_0; clear hi333_0 hl333_0; replace p333 := eq_true p333; replace q333 := eq_true q333; refine st_ (S := fun w' => w'.cell? ⟨gb327, 0, none⟩ = some (.int .i64 a0_0) ∧ w'.cell? ⟨gb327, 1, none⟩ = some (.int .i64 a0_1) ∧ w'.cell? ⟨gb327, 2, none⟩ = some (.slice A0_2 l0_2.length c0_2) ∧ w'.cell? (ad333.add (x8_2).toNat) = some (.slice A333_0 (rd_L2 l1 x8_2).length c333_0)) (ds := [9]) 10 codewrightref40_Canon.tab11 codewrightref40_Canon.bits11 ⟨bc BK327 0, bc BK327 1, bc BK327 2, (hbc hw333_0)⟩ fun hHeld HT_ HW_ => ?_
  generalize wr.drew = w22 at HO_7 BK327 HB HR333_0 hx333_0 hHeld ⊢; refine pu 0 31 (bm 10 1) ?_; refine pu 1 32 (bm 10 3) ?_; refine pu 3 34 (bm 10 11) ?_; refine pu 4 35 (bm 10 27) ?_; refine pu 5 36 (bm 10 59) ?_; refine take_ (i := 2) (N := some 33) (v := ?_) (a' := ?_) (bm 10 63) rfl rfl (take_ofW HT_.out HW_.out (by kernel_rfl)) (fun _ _ _ h => h) (Or.inl ⟨by rfl, ?_⟩) hHeld ?_ ?_; rotate_left
  ·rintro w' ⟨s0, s1, s2, s3⟩; go_simp; with_reducible rfl
  rotate_left
  ·simp only [Act.put, List.setIfInBounds_toArray, List.set_cons_zero, List.set_cons_succ, i64_w, i32_w]; rfl
  refine take_ (i := 6) (N := some 37) (v := ?_) (a' := ?_) (bm 10 127) rfl rfl (take_ofW HT_.out HW_.out (by kernel_rfl)) (fun _ _ _ h => h) (Or.inl ⟨by rfl, ?_⟩) hHeld ?_ ?_; rotate_left
  ·rintro w' ⟨s0, s1, s2, s3⟩; go_simp; with_reducible rfl
  rotate_left
  ·simp only [Act.put, List.setIfInBounds_toArray, List.set_cons_zero, List.set_cons_succ, i64_w, i32_w]; rfl
  refine on 7 38 (bm 10 255) fun K hK => ?_
  refine gs Try.func39 #[.agg #[.int .i64 a0_0, .int .i64 a0_1, .slice A0_2 l0_2.length c0_2], .slice A333_0 (rd_L2 l1 x8_2).length c333_0] ?_; with_reducible refine (codewrightref05_Canon.calls k2 a0_0 a0_1 _ _ l0_2 _ _ (rd_L2 l1 x8_2) t334 _ ?side1 ?side2 ?side3 ?side4 A19.out).mono ?_
  (case side1 => exact cb HR0_2)
  (case side2 => exact HC0_2.out)
  (case side3 => exact cb HR333_0)
  (case side4 => exact HC333_0.out)
  rintro e w23 ⟨v335, rfl, ho0, hb⟩; refine ⟨_, rfl, ?_⟩; have n0_ := Aside0.mk (Kd.N_elder' (na HO_7) (Kd.R_base ho0) hb); have n1_ := Aside0.mk (Kd.R_lower (Kd.R_newM (M := fun k_ => (w.heap.size ≤ k_)) ho0 bsz (fun k_ h_ => h_)) bsz); have n2_ := Aside0.mk (blk_below (g := gb327) (o := .cells #[.int .i64 a0_0, .int .i64 a0_1, .slice A0_2 l0_2.length c0_2] 33 (0, 0)) (ba BK327) hb); have n3_ := bst hb; clear HO_7; clear BK327; clear HB; have HO_7 := n0_; have HO336 := n1_; obtain ⟨Ao336, co336, eo336⟩ := Kd.R_slice HO336.out; subst eo336; have BK327 := n2_; have HB := n3_; clear n0_ n1_ n2_ n3_; have p21 : 0 ≤ (x8_2 : Int) := oda; have q21 : (x8_2 : Int) < ((x7_2.length : Int) : Int) := oda; obtain ⟨go21, co21, eo21, gb21, gl21, cl21, HG21⟩ := Kd.N_form HO_7.out (by omega); (first | cases eo21 | (injection eo21 with ea_ en_ ec_; (first | subst ea_ | (injection ea_ with ea_; subst ea_)); subst ec_; clear en_))
  have GB21 := Aside0.mk gb21; have GG21 := Aside0.mk HG21; clear gb21 gl21 HG21; obtain ⟨ce21, hcl21, hM21, hcc21, hfr21⟩ := Kd.N_elem HO_7.out [] (x8_2 : Int) p21 q21; obtain ⟨ua21_0, uc21_0, rfl, ul21_0, ge21_0⟩ := Kd.FK_slice_open hM21; have hx21_0 := hcc21 0 _ rfl; have hf21_0 := hfr21 0
  (try simp only [show ((Kd.slice 3 (Kd.int .i64))).sz = 1 from rfl, Nat.mul_one, Nat.add_zero] at hx21_0)
  (try simp only [show ((Kd.slice 3 (Kd.int .i64))).sz = 1 from rfl, Nat.mul_one, Nat.add_zero] at hf21_0)
  clear hcl21 hcc21 hfr21; (try clear hM21)
  replace p21 := eq_true p21; replace q21 := eq_true q21; have HX24 := Aside0.mk (show Kd.N (Kd.slice 3 (Kd.int .i64)) 31 _ w.heap.size (fun k_ => (w.heap.size ≤ k_) ∧ some k_ ≠ ((.slice Ao336 t334.length co336) : Value).ownBlock ∧ k_ ≠ gb327) (.slice (some ⟨go21, 0, none⟩) x7_2.length co21) x7_2 from (Kd.N_mono (HO_7.out) (fun k_ hk => ⟨hk.1.1, ⟨hk.2, hk.1.2⟩⟩))); replace HX24 := Aside0.mk (show Kd.N (Kd.slice 3 (Kd.int .i64)) 31 _ w.heap.size (fun k_ => (w.heap.size ≤ k_) ∧ k_ ≠ gb327) (.slice (some ⟨go21, 0, none⟩) x7_2.length co21) x7_2 from Kd.N_mono HX24.out (fun k_ hk => ⟨hk.1, hk.2.2⟩)); obtain ⟨ce24, hcl24, hM24, hcc24, hfr24⟩ := Kd.N_elem HX24.out [] (x8_2 : Int) (oda) (by have h_ : (x8_2 : Int) < ((x7_2.length : Int) : Int) := oda; first | exact h_ | (have e_ := (Kd.N_reads' HO_7.out).1; omega) | simpa using h_)
  obtain ⟨ua24_0, uc24_0, rfl, ul24_0, ge24_0⟩ := Kd.FK_slice_open hM24; have HT1_ := (Kd.R_types (Kd.R_apart' (HO336.out) (Kd.N_typed HO_7.out) (by decide)) BK327.out (by decide)); have HM1_ := Kd.R_mono (ok' := (fun k_ => ((fun k_ => (w.heap.size ≤ k_) ∧ k_ ≠ gb327)) k_ ∧ k_ ≠ go21)) HT1_ (fun k_ hk => ⟨⟨hk.1.1.1, hk.2⟩, fun e_ => (hk.1.2) (by rw [e_]; rfl)⟩); have HP24 := (Kd.N_seg HX24.out (x8_2 : Int) (oda) (by have h_ : (x8_2 : Int) < ((x7_2.length : Int) : Int) := oda; first | exact h_ | (have e_ := (Kd.N_reads' HO_7.out).1; omega) | simpa using h_) (seg := [(.slice Ao336 t334.length co336)]) (j := 0) hcl24 hcc24 (show 1 ≤ 1 from by decide) (x' := t334) (FK_of_R HM1_) (fun _ hk => hk)).1
  (try simp only [show ((Kd.slice 3 (Kd.int .i64))).sz = 1 from rfl, Nat.mul_one, Nat.add_zero] at HP24)
  rw [← Ny337.out] at HP24; have HQ24 := Aside0.mk HP24; clear hcl24 hcc24 hfr24 hM24 HP24; refine hK.out _ _ ⟨bc BK327 0, bc BK327 1, bc BK327 2, (hbc hw333_0)⟩ (fun hHeld => ?_); clear hK K; refine nmz 38 ?_; refine pu 8 39 (bm 10 511) ?_; refine last_ (i := 9) (N := none) (bm 10 1023) rfl rfl (one_of HT_.out (by kernel_rfl)) (by decide) fun K hK => ?_
  refine skip_ (w1 := ?_) (by rfl) rfl ?_ ?_; rotate_left
  ·go_simp; rfl
  refine hK.out _ _ ?_; clear hK K; refine dn ?_; try go_wp2
  go_roundg k2
  case measure => have := HK1.out; have := HK2.out; omega
  case rel => exact ⟨(y337), (wrap64 (x8_2 + 1)), rs, H', ⟨by have := HK1.out; have := HK2.out; omega⟩, ⟨na HQ24⟩, ⟨by (with_reducible repeat (first | refine blk_drewN ?_ _ | refine blk_drew ?_ | refine blk_alloc ?_ _)); refine blk_far ?_ (by have h_ := Kd.N_away HO_7.out (fun _ hk => by first | exact hk.2 | exact hk.1.2 | exact hk.2.2 | exact hk.2.1 | exact hk.1.1.2 | exact hk.1.2.2 | exact hk.2.2.2 | exact hk.2.1.2 | exact hk.2.2.1); intro e_; exact h_ (by rw [e_]; rfl)) _; exact ba BK327⟩, ⟨bel⟩⟩
 rw [if_neg c16] at H; have c16b0 : decide (x8_2 < x5_1) = false := decide_eq_false c16; clear c16; obtain rfl := Option.some.inj H; go_wp2; go_ret; exact ⟨_, ren, Kd.N_mono (na HO_7) (fun _ hk => hk.1), bel⟩
def codewrightref04_Digits.f (k : Nat) (a0_0 : Int) (a0_1 : Int) (l0_2 : List Int) (a1 : Int) : Option (List Int) := (codewrightref04_In.f k a0_0 a0_1 l0_2 a1).bind fun t339 => ((codewrightref04_digits.f k t339 a0_0 a0_1).bind fun t340 => (some t340))
def codewrightref04_Digits.T1 : Bool × List (List Nat × List Nat) := (true, [([], []), ([], []), ([0, 1], [0, 1]), ([], []), ([3], [3]), ([], []), ([5], [5]), ([2, 4, 6, 2], [2, 4, 6]), ([7, 7, 0, 1, 2, 3, 4, 5, 6, 7], [7])])
def codewrightref04_Digits.B1 : List Nat := [0, 0, 3, 0, 8, 0, 32, 127, 255]
theorem codewrightref04_Digits.tab1 : rtab .any (opsOf Try.f82 1) = codewrightref04_Digits.T1 := by kernel_rfl
theorem codewrightref04_Digits.bits1 : waitsOk codewrightref04_Digits.T1.2 codewrightref04_Digits.B1 = true := by kernel_rfl
theorem codewrightref04_Digits.calls (k : Nat) (a0_0 : Int) (a0_1 : Int) (A0_2 : Option Addr) (c0_2 : Nat) (l0_2 : List Int) (a1 : Int) (r : List Int) (w : World) (hr0_2 : Kd.C (Kd.int .i64) w A0_2 l0_2.length l0_2) (hc0_2 : l0_2.length ≤ c0_2) (h : codewrightref04_Digits.f k a0_0 a0_1 l0_2 a1 = some r) :
  Calls Try.prog 82 #[.agg #[.int .i64 a0_0, .int .i64 a0_1, .slice A0_2 l0_2.length c0_2], .int .i64 a1] w fun e w' => ∃ v0_ : Value, e = .returned (v0_) ∧ Kd.R (Kd.int .i64) 3 w' w.heap.size (fun _ => True) v0_ r ∧ Below w.heap.size w w' := by
 have hu33 := Try.underlying33; have HR0_2 := Aside0.mk hr0_2; have HC0_2 := Aside0.mk hc0_2; clear hr0_2 hc0_2; have HB := Aside0.mk (Below.refl w.heap.size w); have H : ((codewrightref04_In.f k a0_0 a0_1 l0_2 a1).bind fun t339 => ((codewrightref04_digits.f k t339 a0_0 a0_1).bind fun t340 => (some t340))) = some r := h; clear h; replace H := bz H; obtain ⟨t339, A3, H⟩ := H; replace H := bz H; obtain ⟨t340, A4, H⟩ := H; obtain rfl := Option.some.inj H; go_enter Try.func82, Try.ntmps82; try go_wp2_with (first | ((with_reducible refine gate_dst (N := 2) rfl ?_); refine bx (cs := #[.int .i64 a0_0, .int .i64 a0_1, .slice A0_2 l0_2.length c0_2]) (t := 33) ?_; intro gb338 hg w5 hbox hb; have BK338 := Aside0.mk (hbox); have GW338 := Aside0.mk ((by rw [hg]; exact bsz : w.heap.size ≤ gb338)); have GE338 := Aside0.mk ((by rw [hg]; exact bsz : w.heap.size ≤ gb338)); replace HB := bst hb; clear hb hbox hg))
 replace BK338 := Aside0.mk (blk_drew BK338.out); replace HB := Aside0.mk (below_drew1 HB.out); refine st_ (S := fun w' => w'.cell? ⟨gb338, 0, none⟩ = some (.int .i64 a0_0) ∧ w'.cell? ⟨gb338, 1, none⟩ = some (.int .i64 a0_1) ∧ w'.cell? ⟨gb338, 2, none⟩ = some (.slice A0_2 l0_2.length c0_2)) (ds := []) 9 codewrightref04_Digits.tab1 codewrightref04_Digits.bits1 ⟨bc BK338 0, bc BK338 1, bc BK338 2⟩ fun hHeld HT_ HW_ => ?_
 generalize w5.drew = w6 at BK338 HB hHeld ⊢; refine pu 1 6 (bm 9 2) ?_; refine pu 3 8 (bm 9 10) ?_; refine pu 5 10 (bm 9 42) ?_; refine take_ (i := 0) (N := some 5) (v := ?_) (a' := ?_) (bm 9 43) rfl rfl (take_ofW HT_.out HW_.out (by kernel_rfl)) (fun _ _ _ h => h) (Or.inl ⟨by rfl, ?_⟩) hHeld ?_ ?_; rotate_left
 ·rintro w' ⟨s0, s1, s2⟩; go_simp; with_reducible rfl
 rotate_left
 ·simp only [Act.put, List.setIfInBounds_toArray, List.set_cons_zero, List.set_cons_succ, i64_w, i32_w]; rfl
 refine take_ (i := 4) (N := some 9) (v := ?_) (a' := ?_) (bm 9 59) rfl rfl (take_ofW HT_.out HW_.out (by kernel_rfl)) (fun _ _ _ h => h) (Or.inl ⟨by rfl, ?_⟩) hHeld ?_ ?_; rotate_left
 ·rintro w' ⟨s0, s1, s2⟩; go_simp; with_reducible rfl
 rotate_left
 ·simp only [Act.put, List.setIfInBounds_toArray, List.set_cons_zero, List.set_cons_succ, i64_w, i32_w]; rfl
 refine take_ (i := 6) (N := some 11) (v := ?_) (a' := ?_) (bm 9 123) rfl rfl (take_ofW HT_.out HW_.out (by kernel_rfl)) (fun _ _ _ h => h) (Or.inl ⟨by rfl, ?_⟩) hHeld ?_ ?_; rotate_left
 ·rintro w' ⟨s0, s1, s2⟩; go_simp; with_reducible rfl
 rotate_left
 ·simp only [Act.put, List.setIfInBounds_toArray, List.set_cons_zero, List.set_cons_succ, i64_w, i32_w]; rfl
 refine on 2 7 (bm 9 127) fun K hK => ?_
 refine gs Try.func80 #[.agg #[.int .i64 a0_0, .int .i64 a0_1, .slice A0_2 l0_2.length c0_2], .int .i64 a1] ?_; with_reducible refine (codewrightref04_In.calls k a0_0 a0_1 _ _ l0_2 a1 t339 _ ?side1 ?side2 A3.out).mono ?_
 (case side1 => exact cb HR0_2)
 (case side2 => exact HC0_2.out)
 rintro e w7 ⟨rfl, hb⟩; refine ⟨_, rfl, ?_⟩; replace BK338 := Aside0.mk (blk_below (g := gb338) (o := .cells #[.int .i64 a0_0, .int .i64 a0_1, .slice A0_2 l0_2.length c0_2] 33 (0, 0)) (ba BK338) hb); replace HB := bst hb; refine hK.out _ _ ⟨bc BK338 0, bc BK338 1, bc BK338 2⟩ (fun hHeld => ?_); clear hK K; refine nmz 7 ?_; refine on 7 12 (bm 9 255) fun K hK => ?_
 refine gs Try.func115 #[.int .i64 t339, .int .i64 a0_0, .int .i64 a0_1] ?_; with_reducible refine (codewrightref04_digits.calls k t339 a0_0 a0_1 t340 _ A4.out).mono ?_
 rintro e w8 ⟨v341, rfl, ho0, hb⟩; refine ⟨_, rfl, ?_⟩; have HO342 := Aside0.mk (Kd.R_lower ho0 bsz); replace BK338 := Aside0.mk (blk_below (g := gb338) (o := .cells #[.int .i64 a0_0, .int .i64 a0_1, .slice A0_2 l0_2.length c0_2] 33 (0, 0)) (ba BK338) hb); replace HB := bst hb; refine hK.out _ _ ⟨bc BK338 0, bc BK338 1, bc BK338 2⟩ (fun hHeld => ?_); clear hK K; refine nmz 12 ?_; refine pu 8 4 (bm 9 511) ?_; refine dn ?_; try go_wp2
 go_ret; exact ⟨_, ren, by (with_reducible repeat (first | apply Kd.R_alloc | apply Kd.R_drewN | apply Kd.R_drew)); exact HO342.out, bel⟩
def codewrightref04_Value.l0 : Nat → List Int → Int → Int → Int → Int → List Int → Option (Int)
 | 0, _, _, _, _, _, _ => none
 | k + 1, x1, x5, x6, x344000, x344001, x344002 => if x6 ≥ 0 then (if 0 ≤ x6 then (if x6 < (x1.length : Int) then (codewrightref04_Value.l0 k x1 (wrap64 ((wrap64 (x5 * x344000)) + (rd x1 x6))) (wrap64 (x6 - 1)) x344000 x344001 x344002) else (none)) else (none)) else (some x5)
def codewrightref04_Value.f (k : Nat) (a0_0 : Int) (a0_1 : Int) (l0_2 : List Int) (l1 : List Int) : Option (Int) := codewrightref04_Value.l0 k l1 0 (wrap64 ((l1.length : Int) - 1)) a0_0 a0_1 l0_2
theorem codewrightref04_Value.calls (k : Nat) (a0_0 : Int) (a0_1 : Int) (A0_2 : Option Addr) (c0_2 : Nat) (l0_2 : List Int) (A1 : Option Addr) (c1 : Nat) (l1 : List Int) (r : Int) (w : World) (hr0_2 : Kd.C (Kd.int .i64) w A0_2 l0_2.length l0_2) (hc0_2 : l0_2.length ≤ c0_2) (hr1 : Kd.C (Kd.int .i64) w A1 l1.length l1) (hc1 : l1.length ≤ c1) (h : codewrightref04_Value.f k a0_0 a0_1 l0_2 l1 = some r) :
  Calls Try.prog 83 #[.agg #[.int .i64 a0_0, .int .i64 a0_1, .slice A0_2 l0_2.length c0_2], .slice A1 l1.length c1] w fun e w' => e = .returned (.int .i64 r) ∧ Below w.heap.size w w' := by
 have hu33 := Try.underlying33; have HR0_2 := Aside0.mk hr0_2; have HC0_2 := Aside0.mk hc0_2; clear hr0_2 hc0_2; have HR1 := Aside0.mk hr1; have HC1 := Aside0.mk hc1; clear hr1 hc1; have HB := Aside0.mk (Below.refl w.heap.size w); have H : (codewrightref04_Value.l0 k l1 0 (wrap64 ((l1.length : Int) - 1)) a0_0 a0_1 l0_2) = some r := h; clear h; have H' := Aside0.mk H; clear H; go_enter Try.func83, Try.ntmps83; go_wp2_with (first | ((with_reducible refine gate_dst (N := 2) rfl ?_); refine bx (cs := #[.int .i64 a0_0, .int .i64 a0_1, .slice A0_2 l0_2.length c0_2]) (t := 33) ?_; intro gb343 hg w3 hbox hb; have BK343 := Aside0.mk (hbox); have GW343 := Aside0.mk ((by rw [hg]; exact bsz : w.heap.size ≤ gb343)); have GE343 := Aside0.mk ((by rw [hg]; exact bsz : w.heap.size ≤ gb343)); replace HB := bst hb; clear hb hbox hg))
 repeat (go_quiet (first | ((with_reducible refine gate_dst (N := 2) rfl ?_); refine bx (cs := #[.int .i64 a0_0, .int .i64 a0_1, .slice A0_2 l0_2.length c0_2]) (t := 33) ?_; intro gb343 hg w3 hbox hb; have BK343 := Aside0.mk (hbox); have GW343 := Aside0.mk ((by rw [hg]; exact bsz : w.heap.size ≤ gb343)); have GE343 := Aside0.mk ((by rw [hg]; exact bsz : w.heap.size ≤ gb343)); replace HB := bst hb; clear hb hbox hg)); try go_wp2_with (first | ((with_reducible refine gate_dst (N := 2) rfl ?_); refine bx (cs := #[.int .i64 a0_0, .int .i64 a0_1, .slice A0_2 l0_2.length c0_2]) (t := 33) ?_; intro gb343 hg w3 hbox hb; have BK343 := Aside0.mk (hbox); have GW343 := Aside0.mk ((by rw [hg]; exact bsz : w.heap.size ≤ gb343)); have GE343 := Aside0.mk ((by rw [hg]; exact bsz : w.heap.size ≤ gb343)); replace HB := bst hb; clear hb hbox hg)))
 go_loopg [5, 6] k (fun kq v5 v6 w' => ∃ (x5_1 : Int) (x6_1 : Int), v5 = .int .i64 x5_1 ∧ v6 = .int .i64 x6_1 ∧ Aside0 (codewrightref04_Value.l0 kq l1 x5_1 x6_1 a0_0 a0_1 l0_2 = some r) ∧ Aside0 (kq ≤ k) ∧ Aside0 (w'.heap[gb343]? = some (.cells #[.int .i64 a0_0, .int .i64 a0_1, (.slice A0_2 l0_2.length c0_2)] 33 (0, 0))) ∧ Aside0 (Below w.heap.size w w'))
 case atStart => exact ⟨(0), (wrap64 ((l1.length : Int) - 1)), rs, rs, H', ⟨Nat.le_refl _⟩, ⟨ba BK343⟩, ⟨bel⟩⟩
 clear H'; obtain ⟨x5_1, x6_1, rfl, rfl, HA, HK1, BK343, HB⟩ := hrel; rcases gk with _ | k1
 ·exact absurd HA.out (by simp [codewrightref04_Value.l0])
 have H := HA.out; clear HA; simp only [codewrightref04_Value.l0] at H
 by_cases c4 : x6_1 ≥ 0
 ·rw [if_pos c4] at H; have c4b0 : decide (0 ≤ x6_1) = true := decide_eq_true c4; clear c4; replace H := ifd H; obtain ⟨c5b0, H⟩ := H; replace H := ifd H; obtain ⟨c6b0, H⟩ := H; have H' := Aside0.mk H; clear H; obtain ⟨hcz7_0, hcz7_1, hcz7_2, hfz7_0, hfz7_1, hfz7_2⟩ := b3 BK343; have p344 : 0 ≤ (x6_1 : Int) := oda; have q344 : x6_1 < (l1.length : Int) := oda; obtain ⟨ad344, e344, hx344_0⟩ := Kd.at_int HR1.out x6_1 p344 q344; cases e344
  (try replace hx344_0 := hbc hx344_0)
  replace p344 := eq_true p344; replace q344 := eq_true q344; go_wp2; repeat (go_quiet (fail); try go_wp2)
  go_roundg k1
  case measure => have := HK1.out; omega
  case rel => exact ⟨(wrap64 ((wrap64 (x5_1 * a0_0)) + (rd l1 x6_1))), (wrap64 (x6_1 - 1)), rs, rs, H', ⟨by have := HK1.out; omega⟩, ⟨ba BK343⟩, ⟨bel⟩⟩
 rw [if_neg c4] at H; have c4b0 : decide (0 ≤ x6_1) = false := decide_eq_false c4; clear c4; obtain rfl := Option.some.inj H; go_wp2; repeat (go_quiet (fail); try go_wp2)
 go_ret; exact ⟨ren, bel⟩
def codewrightref04_Add.l0 : Nat → List Int → List Int → Int → Int → Int → List Int → Option (Int)
 | 0, _, _, _, _, _, _ => none
 | k + 1, x7, x8, x9, x346000, x346001, x346002 => if x9 < (x7.length : Int) then (if 0 ≤ x9 then (if x9 < (x8.length : Int) then (if x346000 = 0 then (none) else (codewrightref04_Add.l0 k (x7.set (x9 : Int).toNat (Int.tmod (wrap64 ((rd x7 x9) + (rd x8 x9))) x346000)) x8 (wrap64 (x9 + 1)) x346000 x346001 x346002)) else (none)) else (none)) else ((codewrightref04_Value.f k x346000 x346001 x346002 x7).bind fun t355 => (some t355))
def codewrightref04_Add.f (k : Nat) (a0_0 : Int) (a0_1 : Int) (l0_2 : List Int) (a1 : Int) (a2 : Int) : Option (Int) := (codewrightref04_Digits.f k a0_0 a0_1 l0_2 a1).bind fun t346 => ((codewrightref04_Digits.f k a0_0 a0_1 l0_2 a2).bind fun t349 => (codewrightref04_Add.l0 k t346 t349 0 a0_0 a0_1 l0_2))
def codewrightref04_Add.T6 : Bool × List (List Nat × List Nat) := (true, [([], []), ([], []), ([], []), ([], []), ([2, 3], [2, 3]), ([4], [4]), ([], []), ([], []), ([6, 7], [6, 7]), ([8], [8]), ([5, 9], [5, 9]), ([], []), ([11], [11]), ([10, 12], [10, 12]), ([0, 1, 0, 1, 2, 3, 4, 5, 6, 7, 8, 9, 10, 11, 12, 13], [0, 1]), ([14, 13, 0, 1, 2, 3, 4, 5, 6, 7, 8, 9, 10, 11, 12, 13], [13, 14])])
def codewrightref04_Add.B6 : List Nat := [0, 0, 0, 0, 12, 28, 0, 0, 192, 448, 1020, 0, 2048, 8188, 16383, 32767]
theorem codewrightref04_Add.tab6 : rtab .any (opsOf Try.f47 6) = codewrightref04_Add.T6 := by kernel_rfl
theorem codewrightref04_Add.bits6 : waitsOk codewrightref04_Add.T6.2 codewrightref04_Add.B6 = true := by kernel_rfl
theorem codewrightref04_Add.calls (k : Nat) (a0_0 : Int) (a0_1 : Int) (A0_2 : Option Addr) (c0_2 : Nat) (l0_2 : List Int) (a1 : Int) (a2 : Int) (r : Int) (w : World) (hr0_2 : Kd.C (Kd.int .i64) w A0_2 l0_2.length l0_2) (hc0_2 : l0_2.length ≤ c0_2) (h : codewrightref04_Add.f k a0_0 a0_1 l0_2 a1 a2 = some r) :
  Calls Try.prog 47 #[.agg #[.int .i64 a0_0, .int .i64 a0_1, .slice A0_2 l0_2.length c0_2], .int .i64 a1, .int .i64 a2] w fun e w' => e = .returned (.int .i64 r) ∧ Below w.heap.size w w' := by
 have hu33 := Try.underlying33; have HR0_2 := Aside0.mk hr0_2; have HC0_2 := Aside0.mk hc0_2; clear hr0_2 hc0_2; have HB := Aside0.mk (Below.refl w.heap.size w); have H : ((codewrightref04_Digits.f k a0_0 a0_1 l0_2 a1).bind fun t346 => ((codewrightref04_Digits.f k a0_0 a0_1 l0_2 a2).bind fun t349 => (codewrightref04_Add.l0 k t346 t349 0 a0_0 a0_1 l0_2))) = some r := h; clear h; replace H := bz H; obtain ⟨t346, A4, H⟩ := H; replace H := bz H; obtain ⟨t349, A5, H⟩ := H; have H' := Aside0.mk H; clear H; go_enter Try.func47, Try.ntmps47; go_wp2_with (first | ((with_reducible refine gate_dst (N := 3) rfl ?_); refine bx (cs := #[.int .i64 a0_0, .int .i64 a0_1, .slice A0_2 l0_2.length c0_2]) (t := 33) ?_; intro gb345 hg w6 hbox hb; have BK345 := Aside0.mk (hbox); have GW345 := Aside0.mk ((by rw [hg]; exact bsz : w.heap.size ≤ gb345)); have GE345 := Aside0.mk ((by rw [hg]; exact bsz : w.heap.size ≤ gb345)); replace HB := bst hb; clear hb hbox hg; obtain ⟨hcz7_0, hcz7_1, hcz7_2, hfz7_0, hfz7_1, hfz7_2⟩ := b3 BK345) | ((with_reducible refine gate_callee (f := 82) rfl ?_); refine gl (some 12) Try.func82 #[.agg #[.int .i64 a0_0, .int .i64 a0_1, .slice A0_2 l0_2.length c0_2], .int .i64 a1] ?_; (with_reducible refine (codewrightref04_Digits.calls k a0_0 a0_1 _ _ l0_2 a1 t346 _ ?side1 ?side2 A4.out).mono ?_); (case side1 => exact cb HR0_2); (case side2 => exact HC0_2.out); rintro e w8 ⟨v347, rfl, ho0, hb⟩; refine ⟨_, rfl, ?_⟩; have HO348 := Aside0.mk (Kd.R_lower ho0 bsz); replace BK345 := Aside0.mk (blk_below (g := gb345) (o := .cells #[.int .i64 a0_0, .int .i64 a0_1, .slice A0_2 l0_2.length c0_2] 33 (0, 0)) (ba BK345) hb); replace HB := bst hb; obtain ⟨hcz9_0, hcz9_1, hcz9_2, hfz9_0, hfz9_1, hfz9_2⟩ := b3 BK345) | ((with_reducible refine gate_callee (f := 82) rfl ?_); refine gl (some 15) Try.func82 #[.agg #[.int .i64 a0_0, .int .i64 a0_1, .slice A0_2 l0_2.length c0_2], .int .i64 a2] ?_; (with_reducible refine (codewrightref04_Digits.calls k a0_0 a0_1 _ _ l0_2 a2 t349 _ ?side1 ?side2 A5.out).mono ?_); (case side1 => exact cb HR0_2); (case side2 => exact HC0_2.out); rintro e w10 ⟨v350, rfl, ho0, hb⟩; refine ⟨_, rfl, ?_⟩; have HO351 := Aside0.mk (Kd.R_lower (Kd.R_new' ho0 (Kd.R_lt (ra HO348))) bsz); replace HO348 := Aside0.mk (Kd.R_elder' (ra HO348) (Kd.R_base ho0) hb); replace BK345 := Aside0.mk (blk_below (g := gb345) (o := .cells #[.int .i64 a0_0, .int .i64 a0_1, .slice A0_2 l0_2.length c0_2] 33 (0, 0)) (ba BK345) hb); replace HB := bst hb))
 go_loopg [9] k (fun kq v9 w' => ∃ (x7_1 : List Int) (x9_1 : Int), v9 = .int .i64 x9_1 ∧ Aside0 (codewrightref04_Add.l0 kq x7_1 t349 x9_1 a0_0 a0_1 l0_2 = some r) ∧ Aside0 (kq ≤ k) ∧ Aside0 (Kd.R (Kd.int .i64) 3 w' w.heap.size (fun k_ => some k_ ≠ (v350 : Value).ownBlock) v347 x7_1) ∧ Aside0 (Kd.R (Kd.int .i64) 3 w' w.heap.size (fun k_ => some k_ ≠ (v347 : Value).ownBlock) v350 t349) ∧ Aside0 (w'.heap[gb345]? = some (.cells #[.int .i64 a0_0, .int .i64 a0_1, (.slice A0_2 l0_2.length c0_2)] 33 (0, 0))) ∧ Aside0 (Below w.heap.size w w'))
 case atStart => exact ⟨(t346), (0), rs, H', ⟨Nat.le_refl _⟩, ⟨Kd.R_mono (ra HO348) (fun _ hk => hk.2)⟩, ⟨Kd.R_mono (ra HO351) (fun _ hk => hk.2)⟩, ⟨ba BK345⟩, ⟨bel⟩⟩
 clear H'; obtain ⟨x7_1, x9_1, rfl, HA, HK1, HO_7, HO_8, BK345, HB⟩ := hrel; rcases gk with _ | k1
 ·exact absurd HA.out (by simp [codewrightref04_Add.l0])
 have H := HA.out; clear HA; simp only [codewrightref04_Add.l0] at H
 by_cases c11 : x9_1 < (x7_1.length : Int)
 ·rw [if_pos c11] at H; have c11b0 : decide (x9_1 < (x7_1.length : Int)) = true := decide_eq_true c11; clear c11; replace H := ifd H; obtain ⟨c12b0, H⟩ := H; replace H := ifd H; obtain ⟨c13b0, H⟩ := H; replace H := ifn H; obtain ⟨c14, H⟩ := H; have c14b0 : (a0_0 == 0) = false := beq_eq_false_iff_ne.mpr c14; have c14b1 : (a0_0 != 0) = true := bne_iff_ne.mpr c14; generalize hy354 : ((x7_1.set (x9_1 : Int).toNat (Int.tmod (wrap64 ((rd x7_1 x9_1) + (rd t349 x9_1))) a0_0)) : List Int) = y354 at H; have Ny354 := Aside0.mk hy354.symm; clear hy354; have H' := Aside0.mk H; clear H; obtain ⟨Ao16, co16, eo16⟩ := Kd.R_slice HO_7.out; subst eo16; try go_wp2
  replace HO_7 := Aside0.mk (Kd.R_drew HO_7.out); replace HO_8 := Aside0.mk (Kd.R_drew HO_8.out); replace BK345 := Aside0.mk (blk_drew BK345.out); replace HB := Aside0.mk (below_drew1 HB.out); have p352 : 0 ≤ (x9_1 : Int) := oda; have q352 : x9_1 < (x7_1.length : Int) := oda; obtain ⟨ad352, e352, hx352_0⟩ := Kd.at_int (Kd.R_reads' HO_7.out).2.2 x9_1 p352 q352; cases e352; replace p352 := eq_true p352; replace q352 := eq_true q352; obtain ⟨Ao18, co18, eo18⟩ := Kd.R_slice HO_8.out; (first | subst eo18 | (injection eo18 with f1_ f2_ f3_; have f4_ := f1_.symm; have f5_ := f3_.symm; clear f1_ f2_ f3_; subst f4_; subst f5_))
  have p353 : 0 ≤ (x9_1 : Int) := oda; have q353 : x9_1 < (t349.length : Int) := oda; obtain ⟨ad353, e353, hx353_0⟩ := Kd.at_int (Kd.R_reads' HO_8.out).2.2 x9_1 p353 q353; cases e353; replace p353 := eq_true p353; replace q353 := eq_true q353; have p15 : 0 ≤ (x9_1 : Int) := oda; have q15 : (x9_1 : Int) < ((x7_1.length : Int) : Int) := oda; obtain ⟨go15, co15, eo15, gb15, gl15, cl15, HG15⟩ := Kd.R_form HO_7.out (by omega); (first | cases eo15 | (injection eo15 with ea_ en_ ec_; (first | subst ea_ | (injection ea_ with ea_; subst ea_)); subst ec_; clear en_))
  have GB15 := Aside0.mk gb15; have GG15 := Aside0.mk HG15; clear gb15 gl15 HG15; (first | simp only [add_plain] at hx352_0 | skip)
  obtain ⟨hx15_0, hf15_0⟩ := Kd.R_celln 0 HO_7.out (x9_1 : Int) p15 q15; replace p15 := eq_true p15; replace q15 := eq_true q15; have HP19 := Kd.R_putn HO_7.out (x9_1 : Int) (Int.tmod (wrap64 ((rd x7_1 x9_1) + (rd t349 x9_1))) a0_0); rw [← Ny354.out] at HP19; have HQ19 := Aside0.mk HP19; clear HP19; refine st_ (S := fun w' => w'.cell? ⟨gb345, 0, none⟩ = some (.int .i64 a0_0) ∧ w'.cell? ⟨gb345, 1, none⟩ = some (.int .i64 a0_1) ∧ w'.cell? ⟨gb345, 2, none⟩ = some (.slice A0_2 l0_2.length c0_2) ∧ w'.cell? ⟨go15, (x9_1).toNat, none⟩ = some (.int .i64 (rd x7_1 x9_1)) ∧ w'.cell? (ad353.add (x9_1).toNat) = some (.int .i64 (rd t349 x9_1))) (ds := [15]) 16 codewrightref04_Add.tab6 codewrightref04_Add.bits6 ⟨bc BK345 0, bc BK345 1, bc BK345 2, hx352_0, hx353_0⟩ fun hHeld HT_ HW_ => ?_
  generalize wr.drew = w17 at HO_7 HO_8 BK345 HB GG15 HQ19 hf15_0 hx15_0 hx352_0 hx353_0 hHeld ⊢; refine pu 0 22 (bm 16 1) ?_; refine pu 1 23 (bm 16 3) ?_; refine pu 2 24 (bm 16 7) ?_; refine pu 3 25 (bm 16 15) ?_; refine pu 4 26 (bm 16 31) ?_; refine pu 6 28 (bm 16 95) ?_; refine pu 7 29 (bm 16 223) ?_; refine pu 8 30 (bm 16 479) ?_; refine pu 11 33 (bm 16 2527) ?_; refine take_ (i := 5) (N := some 27) (v := ?_) (a' := ?_) (bm 16 2559) rfl rfl (take_ofW HT_.out HW_.out (by kernel_rfl)) (fun _ _ _ h => h) (Or.inl ⟨by rfl, ?_⟩) hHeld ?_ ?_; rotate_left
  ·rintro w' ⟨s0, s1, s2, s3, s4⟩; go_simp; with_reducible rfl
  rotate_left
  ·simp only [Act.put, List.setIfInBounds_toArray, List.set_cons_zero, List.set_cons_succ, i64_w, i32_w]; rfl
  refine take_ (i := 9) (N := some 31) (v := ?_) (a' := ?_) (bm 16 3071) rfl rfl (take_ofW HT_.out HW_.out (by kernel_rfl)) (fun _ _ _ h => h) (Or.inl ⟨by rfl, ?_⟩) hHeld ?_ ?_; rotate_left
  ·rintro w' ⟨s0, s1, s2, s3, s4⟩; go_simp; with_reducible rfl
  rotate_left
  ·simp only [Act.put, List.setIfInBounds_toArray, List.set_cons_zero, List.set_cons_succ, i64_w, i32_w]; rfl
  refine pu 10 32 (bm 16 4095) ?_; refine take_ (i := 12) (N := some 34) (v := ?_) (a' := ?_) (bm 16 8191) rfl rfl (take_ofW HT_.out HW_.out (by kernel_rfl)) (fun _ _ _ h => h) (Or.inl ⟨by rfl, ?_⟩) hHeld ?_ ?_; rotate_left
  ·rintro w' ⟨s0, s1, s2, s3, s4⟩; go_simp; with_reducible rfl
  rotate_left
  ·simp only [Act.put, List.setIfInBounds_toArray, List.set_cons_zero, List.set_cons_succ, i64_w, i32_w]; rfl
  refine pu 13 35 (bm 16 16383) ?_; refine pu 14 36 (bm 16 32767) ?_; refine last_ (i := 15) (N := none) (bm 16 65535) rfl rfl (one_of HT_.out (by kernel_rfl)) (by decide) fun K hK => ?_
  refine skip_ (w1 := ?_) (by rfl) rfl ?_ ?_; rotate_left
  ·go_simp; rfl
  refine hK.out _ _ ?_; clear hK K; refine dn ?_; try go_wp2
  go_roundg k1
  case measure => have := HK1.out; omega
  case rel => exact ⟨(y354), (wrap64 (x9_1 + 1)), rs, H', ⟨by have := HK1.out; omega⟩, ⟨ra HQ19⟩, ⟨by (with_reducible repeat (first | apply Kd.R_alloc | apply Kd.R_drewN | apply Kd.R_drew)); exact Kd.R_mono (Kd.R_far (p := ⟨go15, (x9_1 : Int).toNat, none⟩) (Kd.R_mono HO_8.out (fun k_ hk => (⟨hk, fun e_ => hk (by rw [e_]; rfl)⟩ : _ ∧ k_ ≠ go15))) (fun _ hk => hk.2) (.int .i64 (Int.tmod (wrap64 ((rd x7_1 x9_1) + (rd t349 x9_1))) a0_0))) (fun _ hk => hk.1)⟩, ⟨by (with_reducible repeat (first | refine blk_drewN ?_ _ | refine blk_drew ?_ | refine blk_alloc ?_ _)); refine blk_far ?_ (by have h_ := Kd.R_ne HO_7.out BK345.out (by decide); intro e_; exact h_ (by rw [e_]; rfl)) _; exact ba BK345⟩, ⟨bel⟩⟩
 rw [if_neg c11] at H; have c11b0 : decide (x9_1 < (x7_1.length : Int)) = false := decide_eq_false c11; clear c11; replace H := bz H; obtain ⟨t355, A20, H⟩ := H; obtain rfl := Option.some.inj H; obtain ⟨Ao21, co21, eo21⟩ := Kd.R_slice HO_7.out; subst eo21; obtain ⟨hcz22_0, hcz22_1, hcz22_2, hfz22_0, hfz22_1, hfz22_2⟩ := b3 BK345; go_wp2_with (first | ((with_reducible refine gate_callee (f := 83) rfl ?_); refine gl (some 39) Try.func83 #[.agg #[.int .i64 a0_0, .int .i64 a0_1, .slice A0_2 l0_2.length c0_2], .slice Ao21 x7_1.length co21] ?_; (with_reducible refine (codewrightref04_Value.calls k1 a0_0 a0_1 _ _ l0_2 _ _ x7_1 t355 _ ?side1 ?side2 ?side3 ?side4 A20.out).mono ?_); (case side1 => exact cb HR0_2); (case side2 => exact HC0_2.out); (case side3 => repeat (first | exact (Kd.R_reads' HO_7.out).2.2 | (with_reducible refine Kd.C_alloc ?_ _) | (with_reducible refine Kd.C_drewN ?_ _) | (with_reducible refine Kd.C_drew ?_))); (case side4 => exact (Kd.R_reads' HO_7.out).2.1); rintro e w23 ⟨rfl, hb⟩; refine ⟨_, rfl, ?_⟩; replace HO_7 := Aside0.mk (Kd.R_below (ra HO_7) hb); replace HO_8 := Aside0.mk (Kd.R_below (ra HO_8) hb); replace BK345 := Aside0.mk (blk_below (g := gb345) (o := .cells #[.int .i64 a0_0, .int .i64 a0_1, .slice A0_2 l0_2.length c0_2] 33 (0, 0)) (ba BK345) hb); replace HB := bst hb))
 go_ret; exact ⟨ren, bel⟩
def codewrightref05_At.f (k : Nat) (a0_0 : Int) (a0_1 : Int) (l0_2 : List Int) (l1 : List Int) (a2 : Int) : Option (Int) := if a2 < 0 then (some 0) else (if a2 ≥ (l1.length : Int) then (some 0) else (if 0 ≤ a2 then (if a2 < (l1.length : Int) then ((codewrightref04_In.f k a0_0 a0_1 l0_2 (rd l1 a2)).bind fun t358 => (some t358)) else (none)) else (none)))
theorem codewrightref05_At.calls (k : Nat) (a0_0 : Int) (a0_1 : Int) (A0_2 : Option Addr) (c0_2 : Nat) (l0_2 : List Int) (A1 : Option Addr) (c1 : Nat) (l1 : List Int) (a2 : Int) (r : Int) (w : World) (hr0_2 : Kd.C (Kd.int .i64) w A0_2 l0_2.length l0_2) (hc0_2 : l0_2.length ≤ c0_2) (hr1 : Kd.C (Kd.int .i64) w A1 l1.length l1) (hc1 : l1.length ≤ c1) (h : codewrightref05_At.f k a0_0 a0_1 l0_2 l1 a2 = some r) :
  Calls Try.prog 81 #[.agg #[.int .i64 a0_0, .int .i64 a0_1, .slice A0_2 l0_2.length c0_2], .slice A1 l1.length c1, .int .i64 a2] w fun e w' => e = .returned (.int .i64 r) ∧ Below w.heap.size w w' := by
 have hu33 := Try.underlying33; have HR0_2 := Aside0.mk hr0_2; have HC0_2 := Aside0.mk hc0_2; clear hr0_2 hc0_2; have HR1 := Aside0.mk hr1; have HC1 := Aside0.mk hc1; clear hr1 hc1; have HB := Aside0.mk (Below.refl w.heap.size w); have H : (if a2 < 0 then (some 0) else (if a2 ≥ (l1.length : Int) then (some 0) else (if 0 ≤ a2 then (if a2 < (l1.length : Int) then ((codewrightref04_In.f k a0_0 a0_1 l0_2 (rd l1 a2)).bind fun t358 => (some t358)) else (none)) else (none)))) = some r := h; clear h
 by_cases c4 : a2 < 0
 ·rw [if_pos c4] at H; have c4b0 : decide (a2 < 0) = true := decide_eq_true c4; clear c4; obtain rfl := Option.some.inj H; go_enter Try.func81, Try.ntmps81; go_wp2_with (first | ((with_reducible refine gate_dst (N := 3) rfl ?_); (try (refine gate_guard (by rfl) ?_; dsimp only)); refine bx (cs := #[.int .i64 a0_0, .int .i64 a0_1, .slice A0_2 l0_2.length c0_2]) (t := 33) ?_; intro gb356 hg w5 hbox hb; have BK356 := Aside0.mk (hbox); have GW356 := Aside0.mk ((by rw [hg]; exact bsz : w.heap.size ≤ gb356)); have GE356 := Aside0.mk ((by rw [hg]; exact bsz : w.heap.size ≤ gb356)); replace HB := bst hb; clear hb hbox hg)); go_ret; exact ⟨ren, bel⟩
 rw [if_neg c4] at H; have c4b0 : decide (a2 < 0) = false := decide_eq_false c4; clear c4
 by_cases c6 : a2 ≥ (l1.length : Int)
 ·rw [if_pos c6] at H; have c6b0 : decide ((l1.length : Int) ≤ a2) = true := decide_eq_true c6; clear c6; obtain rfl := Option.some.inj H; go_enter Try.func81, Try.ntmps81; go_wp2_with (first | ((with_reducible refine gate_dst (N := 3) rfl ?_); (try (refine gate_guard (by rfl) ?_; dsimp only)); refine bx (cs := #[.int .i64 a0_0, .int .i64 a0_1, .slice A0_2 l0_2.length c0_2]) (t := 33) ?_; intro gb356 hg w7 hbox hb; have BK356 := Aside0.mk (hbox); have GW356 := Aside0.mk ((by rw [hg]; exact bsz : w.heap.size ≤ gb356)); have GE356 := Aside0.mk ((by rw [hg]; exact bsz : w.heap.size ≤ gb356)); replace HB := bst hb; clear hb hbox hg)); go_ret; exact ⟨ren, bel⟩
 rw [if_neg c6] at H; have c6b0 : decide ((l1.length : Int) ≤ a2) = false := decide_eq_false c6; clear c6; replace H := ifd H; obtain ⟨c8b0, H⟩ := H; replace H := ifd H; obtain ⟨c9b0, H⟩ := H; replace H := bz H; obtain ⟨t358, A10, H⟩ := H; obtain rfl := Option.some.inj H; go_enter Try.func81, Try.ntmps81; try go_wp2_with (first | ((with_reducible refine gate_dst (N := 3) rfl ?_); (try (refine gate_guard (by rfl) ?_; dsimp only)); refine bx (cs := #[.int .i64 a0_0, .int .i64 a0_1, .slice A0_2 l0_2.length c0_2]) (t := 33) ?_; intro gb356 hg w11 hbox hb; have BK356 := Aside0.mk (hbox); have GW356 := Aside0.mk ((by rw [hg]; exact bsz : w.heap.size ≤ gb356)); have GE356 := Aside0.mk ((by rw [hg]; exact bsz : w.heap.size ≤ gb356)); replace HB := bst hb; clear hb hbox hg))
 replace BK356 := Aside0.mk (blk_drew BK356.out); replace HB := Aside0.mk (below_drew1 HB.out); have p357 : 0 ≤ (a2 : Int) := oda; have q357 : a2 < (l1.length : Int) := oda; obtain ⟨ad357, e357, hx357_0⟩ := Kd.at_int HR1.out a2 p357 q357; have hw357_0 := hx357_0; cases e357
 (try replace hx357_0 := hbc hx357_0)
 replace p357 := eq_true p357; replace q357 := eq_true q357; refine start_ (n := 7) (S := fun w' => w'.cell? ⟨gb356, 0, none⟩ = some (.int .i64 a0_0) ∧ w'.cell? ⟨gb356, 1, none⟩ = some (.int .i64 a0_1) ∧ w'.cell? ⟨gb356, 2, none⟩ = some (.slice A0_2 l0_2.length c0_2) ∧ w'.cell? (ad357.add (a2).toNat) = some (.int .i64 (rd l1 a2))) (ds := []) (bm 7 0) (by kernel_rfl) rfl rfl ⟨bc BK356 0, bc BK356 1, bc BK356 2, (hbc hw357_0)⟩ (fun hHeld => ?_); generalize w11.drew = w12 at BK356 HB hx357_0 hHeld ⊢; refine pure_ (i := 1) (N := some 16) (v := ?_) (a' := ?_) (bm 7 2) rfl rfl (by kernel_rfl) (fun _ _ _ h => h) (Or.inl ⟨by rfl, ?_⟩) ?_ ?_; rotate_left
 ·intro w'; go_simp; with_reducible rfl
 rotate_left
 ·simp only [Act.put, List.setIfInBounds_toArray, List.set_cons_zero, List.set_cons_succ, i64_w, i32_w]; rfl
 refine pure_ (i := 2) (N := some 17) (v := ?_) (a' := ?_) (bm 7 6) rfl rfl (by kernel_rfl) (fun _ _ _ h => h) (Or.inl ⟨by rfl, ?_⟩) ?_ ?_; rotate_left
 ·intro w'; go_simp; with_reducible rfl
 rotate_left
 ·simp only [Act.put, List.setIfInBounds_toArray, List.set_cons_zero, List.set_cons_succ, i64_w, i32_w]; rfl
 refine pure_ (i := 3) (N := some 18) (v := ?_) (a' := ?_) (bm 7 14) rfl rfl (by kernel_rfl) (fun _ _ _ h => h) (Or.inl ⟨by rfl, ?_⟩) ?_ ?_; rotate_left
 ·intro w'; go_simp; with_reducible rfl
 rotate_left
 ·simp only [Act.put, List.setIfInBounds_toArray, List.set_cons_zero, List.set_cons_succ, i64_w, i32_w]; rfl
 refine take_ (i := 0) (N := some 15) (v := ?_) (a' := ?_) (bm 7 15) rfl rfl (by kernel_rfl) (fun _ _ _ h => h) (Or.inl ⟨by rfl, ?_⟩) hHeld ?_ ?_; rotate_left
 ·rintro w' ⟨s0, s1, s2, s3⟩; go_simp; with_reducible rfl
 rotate_left
 ·simp only [Act.put, List.setIfInBounds_toArray, List.set_cons_zero, List.set_cons_succ, i64_w, i32_w]; rfl
 refine take_ (i := 4) (N := some 19) (v := ?_) (a' := ?_) (bm 7 31) rfl rfl (by kernel_rfl) (fun _ _ _ h => h) (Or.inl ⟨by rfl, ?_⟩) hHeld ?_ ?_; rotate_left
 ·rintro w' ⟨s0, s1, s2, s3⟩; go_simp; with_reducible rfl
 rotate_left
 ·simp only [Act.put, List.setIfInBounds_toArray, List.set_cons_zero, List.set_cons_succ, i64_w, i32_w]; rfl
 refine one_ (i := 5) (N := some 20) (bm 7 63) rfl rfl (by kernel_rfl) (by decide) fun K hK => ?_
 refine gs Try.func80 #[.agg #[.int .i64 a0_0, .int .i64 a0_1, .slice A0_2 l0_2.length c0_2], .int .i64 (rd l1 a2)] ?_; with_reducible refine (codewrightref04_In.calls k a0_0 a0_1 _ _ l0_2 (rd l1 a2) t358 _ ?side1 ?side2 A10.out).mono ?_
 (case side1 => exact cb HR0_2)
 (case side2 => exact HC0_2.out)
 rintro e w13 ⟨rfl, hb⟩; refine ⟨_, rfl, ?_⟩; replace BK356 := Aside0.mk (blk_below (g := gb356) (o := .cells #[.int .i64 a0_0, .int .i64 a0_1, .slice A0_2 l0_2.length c0_2] 33 (0, 0)) (ba BK356) hb); replace HB := bst hb; refine hK.out _ _ ⟨bc BK356 0, bc BK356 1, bc BK356 2, (hbc hw357_0)⟩ (fun hHeld => ?_); clear hK K; refine nmz 20 ?_; refine pure_ (i := 6) (N := some 6) (v := ?_) (a' := ?_) (bm 7 127) rfl rfl (by kernel_rfl) (fun _ _ _ h => h) (Or.inl ⟨by rfl, ?_⟩) ?_ ?_; rotate_left
 ·intro w'; go_simp; with_reducible rfl
 rotate_left
 ·simp only [Act.put, List.setIfInBounds_toArray, List.set_cons_zero, List.set_cons_succ, i64_w, i32_w]; rfl
 refine done_ (by kernel_rfl) ?_; try go_wp2
 go_ret; exact ⟨ren, bel⟩
def codewrightref05_Add.l0 : Nat → List Int → List Int → List Int → Int → Int → Int → List Int → Option (List Int)
 | 0, _, _, _, _, _, _, _ => none
 | k + 1, x1, x2, x7, x8, x360000, x360001, x360002 => if x8 < (x7.length : Int) then ((codewrightref05_At.f k x360000 x360001 x360002 x1 x8).bind fun t363 => ((codewrightref05_At.f k x360000 x360001 x360002 x2 x8).bind fun t364 => ((codewrightref04_Add.f k x360000 x360001 x360002 t363 t364).bind fun t365 => (if 0 ≤ x8 then (codewrightref05_Add.l0 k x1 x2 (x7.set (x8 : Int).toNat t365) (wrap64 (x8 + 1)) x360000 x360001 x360002) else (none))))) else ((codewrightref05_Canon.f k x360000 x360001 x360002 x7).bind fun t367 => (some t367))
def codewrightref05_Add.f (k : Nat) (a0_0 : Int) (a0_1 : Int) (l0_2 : List Int) (l1 : List Int) (l2 : List Int) : Option (List Int) := if 0 ≤ (mx (l1.length : Int) (l2.length : Int)) then (if (mx (l1.length : Int) (l2.length : Int) : Int).toNat ≤ 35184372088832 then (codewrightref05_Add.l0 k l1 l2 (List.replicate (mx (l1.length : Int) (l2.length : Int) : Int).toNat 0) 0 a0_0 a0_1 l0_2) else (none)) else (none)
def codewrightref05_Add.T5 : Bool × List (List Nat × List Nat) := (true, [([], []), ([], []), ([], []), ([], []), ([], []), ([], []), ([3, 4, 5], [3, 4, 5]), ([], []), ([], []), ([], []), ([7, 8, 9, 6], [7, 8, 9]), ([2, 6, 10, 10], [2, 6, 10]), ([0, 1, 0, 1, 2, 3, 4, 5, 6, 7, 8, 9, 10, 11], [0, 1]), ([12, 11, 11, 0, 1, 2, 3, 4, 5, 6, 7, 8, 9, 10, 11], [11, 12])])
def codewrightref05_Add.B5 : List Nat := [0, 0, 0, 0, 0, 0, 56, 0, 0, 0, 1016, 2044, 4095, 8191]
theorem codewrightref05_Add.tab5 : rtab .any (opsOf Try.f72 5) = codewrightref05_Add.T5 := by kernel_rfl
theorem codewrightref05_Add.bits5 : waitsOk codewrightref05_Add.T5.2 codewrightref05_Add.B5 = true := by kernel_rfl
theorem codewrightref05_Add.calls (k : Nat) (a0_0 : Int) (a0_1 : Int) (A0_2 : Option Addr) (c0_2 : Nat) (l0_2 : List Int) (A1 : Option Addr) (c1 : Nat) (l1 : List Int) (A2 : Option Addr) (c2 : Nat) (l2 : List Int) (r : List Int) (w : World) (hr0_2 : Kd.C (Kd.int .i64) w A0_2 l0_2.length l0_2) (hc0_2 : l0_2.length ≤ c0_2) (hr1 : Kd.C (Kd.int .i64) w A1 l1.length l1) (hc1 : l1.length ≤ c1) (hr2 : Kd.C (Kd.int .i64) w A2 l2.length l2) (hc2 : l2.length ≤ c2) (h : codewrightref05_Add.f k a0_0 a0_1 l0_2 l1 l2 = some r) :
  Calls Try.prog 72 #[.agg #[.int .i64 a0_0, .int .i64 a0_1, .slice A0_2 l0_2.length c0_2], .slice A1 l1.length c1, .slice A2 l2.length c2] w fun e w' => ∃ v0_ : Value, e = .returned (v0_) ∧ Kd.R (Kd.int .i64) 3 w' w.heap.size (fun _ => True) v0_ r ∧ Below w.heap.size w w' := by
 have hu33 := Try.underlying33
 have HR0_2 := Aside0.mk hr0_2
 have HC0_2 := Aside0.mk hc0_2
 clear hr0_2 hc0_2
 have HR1 := Aside0.mk hr1
 have HC1 := Aside0.mk hc1
 clear hr1 hc1
 have HR2 := Aside0.mk hr2
 have HC2 := Aside0.mk hc2
 clear hr2 hc2
 have HB := Aside0.mk (Below.refl w.heap.size w)
 have H : (if 0 ≤ (mx (l1.length : Int) (l2.length : Int)) then (if (mx (l1.length : Int) (l2.length : Int) : Int).toNat ≤ 35184372088832 then (codewrightref05_Add.l0 k l1 l2 (List.replicate (mx (l1.length : Int) (l2.length : Int) : Int).toNat 0) 0 a0_0 a0_1 l0_2) else (none)) else (none)) = some r := h
 clear h
 generalize hji4 : (mx (l1.length : Int) (l2.length : Int)) = ji4 at H
 (try (have hji4l : 0 ≤ ji4 := by (rw [← hji4]; unfold mx; (repeat' split) <;> omega)))
 (try (have hji4m : 0 ≤ ji4 := by omega))
 have hji4_ : (if (l1.length : Int) < (l2.length : Int) then (l2.length : Int) else (l1.length : Int)) = ji4 := hji4
 have hji4n : (if l1.length < l2.length then (l2.length : Int) else (l1.length : Int)) = ji4 := by rw [← hji4_]; simp only [Int.ofNat_lt]
 replace H := ift H; obtain ⟨c5b0, c5b1, H⟩ := H
 replace H := ift H; obtain ⟨c6b0, c6b1, H⟩ := H
 generalize hy360 : ((List.replicate (ji4 : Int).toNat 0) : List Int) = y360 at H; have Ny360 := Aside0.mk hy360.symm; clear hy360
 have H' := Aside0.mk H
 clear H
 go_enter Try.func72, Try.ntmps72
 go_wp2_with (first | ((with_reducible refine gate_dst (N := 3) rfl ?_); refine bx (cs := #[.int .i64 a0_0, .int .i64 a0_1, .slice A0_2 l0_2.length c0_2]) (t := 33) ?_; intro gb359 hg w7 hbox hb; have BK359 := Aside0.mk (hbox); have GW359 := Aside0.mk ((by rw [hg]; exact bsz : w.heap.size ≤ gb359)); have GE359 := Aside0.mk ((by rw [hg]; exact bsz : w.heap.size ≤ gb359)); replace HB := bst hb; clear hb hbox hg) | ((with_reducible refine gate_dst (N := 14) rfl ?_); refine Kd.R_make (Kd.int .i64) _ 3 rfl (N := 14) rfl 31 _ _ rfl ji4 rfl rfl Try.underlying31 (.int .i64 0) 8 info3 rfl (by decide) (by omega) 0 (ok := fun _ => True) (okp := fun _ => True) rfl (fun _ hk => hk) trivial (oda) (Nat.le_trans (Nat.mul_le_mul_right _ (oda : ji4.toNat ≤ 35184372088832)) (by omega)) (Below.refl _ _) (Nat.le_refl _) ?_; intro v361 w8 ho9 hb hg_ hnew_; clear hg_ hnew_; (first | rw [← Ny360.out] at ho9 | (simp only [Int.reduceToNat] at ho9; rw [← Ny360.out] at ho9)); have HO362 := Aside0.mk (Kd.R_lower ho9 bsz); replace BK359 := Aside0.mk (blk_below (g := gb359) (o := .cells #[.int .i64 a0_0, .int .i64 a0_1, .slice A0_2 l0_2.length c0_2] 33 (0, 0)) (ba BK359) hb); replace HB := bst hb; clear hb ho9))
 go_loopg [8] k (fun kq v8 w' => ∃ (x7_1 : List Int) (x8_1 : Int), v8 = .int .i64 x8_1 ∧ Aside0 (codewrightref05_Add.l0 kq l1 l2 x7_1 x8_1 a0_0 a0_1 l0_2 = some r) ∧ Aside0 (kq ≤ k) ∧ Aside0 (Kd.R (Kd.int .i64) 3 w' w.heap.size (fun _ => True) v361 x7_1) ∧ Aside0 (w'.heap[gb359]? = some (.cells #[.int .i64 a0_0, .int .i64 a0_1, (.slice A0_2 l0_2.length c0_2)] 33 (0, 0))) ∧ Aside0 (Below w.heap.size w w'))
 case atStart => exact ⟨(y360), (0), rs, H', ⟨Nat.le_refl _⟩, ⟨ra HO362⟩, ⟨ba BK359⟩, ⟨bel⟩⟩
 clear H'
 obtain ⟨x7_1, x8_1, rfl, HA, HK1, HO_7, BK359, HB⟩ := hrel
 rcases gk with _ | k1
 ·exact absurd HA.out (by simp [codewrightref05_Add.l0])
 have H := HA.out
 clear HA
 simp only [codewrightref05_Add.l0] at H
 by_cases c10 : x8_1 < (x7_1.length : Int)
 ·rw [if_pos c10] at H
  have c10b0 : decide (x8_1 < (x7_1.length : Int)) = true := decide_eq_true c10
  clear c10
  replace H := bz H; obtain ⟨t363, A11, H⟩ := H
  replace H := bz H; obtain ⟨t364, A12, H⟩ := H
  replace H := bz H; obtain ⟨t365, A13, H⟩ := H
  replace H := ifd H; obtain ⟨c14b0, H⟩ := H
  generalize hy366 : ((x7_1.set (x8_1 : Int).toNat t365) : List Int) = y366 at H; have Ny366 := Aside0.mk hy366.symm; clear hy366
  have H' := Aside0.mk H
  clear H
  obtain ⟨Ao16, co16, eo16⟩ := Kd.R_slice HO_7.out
  subst eo16
  try go_wp2
  replace HO_7 := Aside0.mk (Kd.R_drew HO_7.out)
  replace BK359 := Aside0.mk (blk_drew BK359.out)
  replace HB := Aside0.mk (below_drew1 HB.out)
  refine st_ (S := fun w' => w'.cell? ⟨gb359, 0, none⟩ = some (.int .i64 a0_0) ∧ w'.cell? ⟨gb359, 1, none⟩ = some (.int .i64 a0_1) ∧ w'.cell? ⟨gb359, 2, none⟩ = some (.slice A0_2 l0_2.length c0_2)) (ds := [13]) 14 codewrightref05_Add.tab5 codewrightref05_Add.bits5 ⟨bc BK359 0, bc BK359 1, bc BK359 2⟩ fun hHeld HT_ HW_ => ?_
  generalize wr.drew = w17 at HO_7 BK359 HB hHeld ⊢
  refine pu 0 21 (bm 14 1) ?_
  refine pu 1 22 (bm 14 3) ?_
  refine pu 4 25 (bm 14 19) ?_
  refine pu 5 26 (bm 14 51) ?_
  refine pu 8 29 (bm 14 307) ?_
  refine pu 9 30 (bm 14 819) ?_
  refine take_ (i := 2) (N := some 23) (v := ?_) (a' := ?_) (bm 14 823) rfl rfl (take_ofW HT_.out HW_.out (by kernel_rfl)) (fun _ _ _ h => h) (Or.inl ⟨by rfl, ?_⟩) hHeld ?_ ?_
  rotate_left
  ·rintro w' ⟨s0, s1, s2⟩
   go_simp
   with_reducible rfl
  rotate_left
  ·simp only [Act.put, List.setIfInBounds_toArray, List.set_cons_zero, List.set_cons_succ, i64_w, i32_w]
   rfl
  refine take_ (i := 3) (N := some 24) (v := ?_) (a' := ?_) (bm 14 831) rfl rfl (take_ofW HT_.out HW_.out (by kernel_rfl)) (fun _ _ _ h => h) (Or.inl ⟨by rfl, ?_⟩) hHeld ?_ ?_
  rotate_left
  ·rintro w' ⟨s0, s1, s2⟩
   go_simp
   with_reducible rfl
  rotate_left
  ·simp only [Act.put, List.setIfInBounds_toArray, List.set_cons_zero, List.set_cons_succ, i64_w, i32_w]
   rfl
  refine take_ (i := 7) (N := some 28) (v := ?_) (a' := ?_) (bm 14 959) rfl rfl (take_ofW HT_.out HW_.out (by kernel_rfl)) (fun _ _ _ h => h) (Or.inl ⟨by rfl, ?_⟩) hHeld ?_ ?_
  rotate_left
  ·rintro w' ⟨s0, s1, s2⟩
   go_simp
   with_reducible rfl
  rotate_left
  ·simp only [Act.put, List.setIfInBounds_toArray, List.set_cons_zero, List.set_cons_succ, i64_w, i32_w]
   rfl
  refine on 6 27 (bm 14 1023) fun K hK => ?_
  refine gs Try.func81 #[.agg #[.int .i64 a0_0, .int .i64 a0_1, .slice A0_2 l0_2.length c0_2], .slice A1 l1.length c1, .int .i64 x8_1] ?_
  with_reducible refine (codewrightref05_At.calls k1 a0_0 a0_1 _ _ l0_2 _ _ l1 x8_1 t363 _ ?side1 ?side2 ?side3 ?side4 A11.out).mono ?_
  (case side1 => exact cb HR0_2)
  (case side2 => exact HC0_2.out)
  (case side3 => exact cb HR1)
  (case side4 => exact HC1.out)
  rintro e w18 ⟨rfl, hb⟩
  refine ⟨_, rfl, ?_⟩
  replace HO_7 := Aside0.mk (Kd.R_below (ra HO_7) hb)
  replace BK359 := Aside0.mk (blk_below (g := gb359) (o := .cells #[.int .i64 a0_0, .int .i64 a0_1, .slice A0_2 l0_2.length c0_2] 33 (0, 0)) (ba BK359) hb)
  replace HB := bst hb
  refine hK.out _ _ ⟨bc BK359 0, bc BK359 1, bc BK359 2⟩ (fun hHeld => ?_)
  clear hK K
  refine nmz 27 ?_
  refine on 10 31 (bm 14 2047) fun K hK => ?_
  refine gs Try.func81 #[.agg #[.int .i64 a0_0, .int .i64 a0_1, .slice A0_2 l0_2.length c0_2], .slice A2 l2.length c2, .int .i64 x8_1] ?_
  with_reducible refine (codewrightref05_At.calls k1 a0_0 a0_1 _ _ l0_2 _ _ l2 x8_1 t364 _ ?side1 ?side2 ?side3 ?side4 A12.out).mono ?_
  (case side1 => exact cb HR0_2)
  (case side2 => exact HC0_2.out)
  (case side3 => exact cb HR2)
  (case side4 => exact HC2.out)
  rintro e w19 ⟨rfl, hb⟩
  refine ⟨_, rfl, ?_⟩
  replace HO_7 := Aside0.mk (Kd.R_below (ra HO_7) hb)
  replace BK359 := Aside0.mk (blk_below (g := gb359) (o := .cells #[.int .i64 a0_0, .int .i64 a0_1, .slice A0_2 l0_2.length c0_2] 33 (0, 0)) (ba BK359) hb)
  replace HB := bst hb
  refine hK.out _ _ ⟨bc BK359 0, bc BK359 1, bc BK359 2⟩ (fun hHeld => ?_)
  clear hK K
  refine nmz 31 ?_
  refine on 11 32 (bm 14 4095) fun K hK => ?_
  refine gs Try.func47 #[.agg #[.int .i64 a0_0, .int .i64 a0_1, .slice A0_2 l0_2.length c0_2], .int .i64 t363, .int .i64 t364] ?_
  with_reducible refine (codewrightref04_Add.calls k1 a0_0 a0_1 _ _ l0_2 t363 t364 t365 _ ?side1 ?side2 A13.out).mono ?_
  (case side1 => exact cb HR0_2)
  (case side2 => exact HC0_2.out)
  rintro e w20 ⟨rfl, hb⟩
  refine ⟨_, rfl, ?_⟩
  replace HO_7 := Aside0.mk (Kd.R_below (ra HO_7) hb)
  replace BK359 := Aside0.mk (blk_below (g := gb359) (o := .cells #[.int .i64 a0_0, .int .i64 a0_1, .slice A0_2 l0_2.length c0_2] 33 (0, 0)) (ba BK359) hb)
  replace HB := bst hb
  have p15 : 0 ≤ (x8_1 : Int) := oda
  have q15 : (x8_1 : Int) < ((x7_1.length : Int) : Int) := oda
  obtain ⟨go15, co15, eo15, gb15, gl15, cl15, HG15⟩ := Kd.R_form HO_7.out (by omega)
  (first | cases eo15 | (injection eo15 with ea_ en_ ec_; (first | subst ea_ | (injection ea_ with ea_; subst ea_)); subst ec_; clear en_))
  have GB15 := Aside0.mk gb15
  have GG15 := Aside0.mk HG15
  clear gb15 gl15 HG15
  obtain ⟨hx15_0, hf15_0⟩ := Kd.R_celln 0 HO_7.out (x8_1 : Int) p15 q15
  replace p15 := eq_true p15
  replace q15 := eq_true q15
  have HP21 := Kd.R_putn HO_7.out (x8_1 : Int) t365
  rw [← Ny366.out] at HP21
  have HQ21 := Aside0.mk HP21
  clear HP21
  refine hK.out _ _ ⟨bc BK359 0, bc BK359 1, bc BK359 2⟩ (fun hHeld => ?_)
  clear hK K
  refine nmz 32 ?_
  refine pu 12 33 (bm 14 8191) ?_
  refine last_ (i := 13) (N := none) (bm 14 16383) rfl rfl (one_of HT_.out (by kernel_rfl)) (by decide) fun K hK => ?_
  refine skip_ (w1 := ?_) (by rfl) rfl ?_ ?_
  rotate_left
  ·go_simp
   rfl
  refine hK.out _ _ ?_
  clear hK K
  refine dn ?_
  try go_wp2
  go_roundg k1
  case measure => have := HK1.out; omega
  case rel => exact ⟨(y366), (wrap64 (x8_1 + 1)), rs, H', ⟨by have := HK1.out; omega⟩, ⟨ra HQ21⟩, ⟨by (with_reducible repeat (first | refine blk_drewN ?_ _ | refine blk_drew ?_ | refine blk_alloc ?_ _)); refine blk_far ?_ (by have h_ := Kd.R_ne HO_7.out BK359.out (by decide); intro e_; exact h_ (by rw [e_]; rfl)) _; exact ba BK359⟩, ⟨bel⟩⟩
 rw [if_neg c10] at H
 have c10b0 : decide (x8_1 < (x7_1.length : Int)) = false := decide_eq_false c10
 clear c10
 replace H := bz H; obtain ⟨t367, A22, H⟩ := H
 obtain rfl := Option.some.inj H
 obtain ⟨Ao23, co23, eo23⟩ := Kd.R_slice HO_7.out
 subst eo23
 obtain ⟨hcz24_0, hcz24_1, hcz24_2, hfz24_0, hfz24_1, hfz24_2⟩ := b3 BK359
 go_wp2_with (first | ((with_reducible refine gate_callee (f := 39) rfl ?_); refine gl (some 36) Try.func39 #[.agg #[.int .i64 a0_0, .int .i64 a0_1, .slice A0_2 l0_2.length c0_2], .slice Ao23 x7_1.length co23] ?_; (with_reducible refine (codewrightref05_Canon.calls k1 a0_0 a0_1 _ _ l0_2 _ _ x7_1 t367 _ ?side1 ?side2 ?side3 ?side4 A22.out).mono ?_); (case side1 => exact cb HR0_2); (case side2 => exact HC0_2.out); (case side3 => repeat (first | exact (Kd.R_reads' HO_7.out).2.2 | (with_reducible refine Kd.C_alloc ?_ _) | (with_reducible refine Kd.C_drewN ?_ _) | (with_reducible refine Kd.C_drew ?_))); (case side4 => exact (Kd.R_reads' HO_7.out).2.1); rintro e w25 ⟨v368, rfl, ho0, hb⟩; refine ⟨_, rfl, ?_⟩; have HO369 := Aside0.mk (Kd.R_lower (Kd.R_new' ho0 (Kd.R_lt (ra HO_7))) bsz); replace HO_7 := Aside0.mk (Kd.R_elder' (ra HO_7) (Kd.R_base ho0) hb); replace BK359 := Aside0.mk (blk_below (g := gb359) (o := .cells #[.int .i64 a0_0, .int .i64 a0_1, .slice A0_2 l0_2.length c0_2] 33 (0, 0)) (ba BK359) hb); replace HB := bst hb))
 go_ret
 exact ⟨_, by first | rfl | (simp [errW_none, errW_some] <;> rfl) | (simp only [← hji4]; first | rfl | (simp [errW_none, errW_some] <;> rfl)) | (simp [*, errW_none, errW_some] <;> rfl), Kd.R_mono (ra HO369) (fun _ hk => trivial), bel⟩
def codewrightref40_At.f (l0 : List (List Int)) (a1 : Int) : Option (List Int) := if a1 < 0 then (some ([] : List Int)) else (if a1 ≥ (l0.length : Int) then (some ([] : List Int)) else (if 0 ≤ a1 then (if a1 < (l0.length : Int) then (some (rd_L2 l0 a1)) else (none)) else (none)))
theorem codewrightref40_At.calls (P0_ : Nat → Prop) (A0 : Option Addr) (c0 : Nat) (l0 : List (List Int)) (a1 : Int) (r : List Int) (w : World) (hs0 : Kd.V (Kd.slice 3 (Kd.int .i64)) 31 w w.heap.size (fun k_ => P0_ k_) (.slice A0 l0.length c0) l0) (h : codewrightref40_At.f l0 a1 = some r) :
  Calls Try.prog 73 #[.slice A0 l0.length c0, .int .i64 a1] w fun e w' => ∃ v0_ : Value, e = .returned (v0_) ∧ Kd.V (Kd.int .i64) 3 w' w.heap.size (fun k_ => (P0_ k_ ∨ w.heap.size ≤ k_)) v0_ r ∧ Below w.heap.size w w' := by
 have HO0 := Aside0.mk (show Kd.V (Kd.slice 3 (Kd.int .i64)) 31 w w.heap.size (fun k_ => (P0_ k_ ∨ w.heap.size ≤ k_)) (.slice A0 l0.length c0) l0 from Kd.V_mono hs0 (fun k_ hk => .inl hk)); have HB := Aside0.mk (Below.refl w.heap.size w); have H : (if a1 < 0 then (some ([] : List Int)) else (if a1 ≥ (l0.length : Int) then (some ([] : List Int)) else (if 0 ≤ a1 then (if a1 < (l0.length : Int) then (some (rd_L2 l0 a1)) else (none)) else (none)))) = some r := h; clear h
 by_cases c3 : a1 < 0
 ·rw [if_pos c3] at H; have c3b0 : decide (a1 < 0) = true := decide_eq_true c3; clear c3; obtain rfl := Option.some.inj H; go_enter Try.func73, Try.ntmps73; go_wp2; go_ret; exact ⟨_, ren, Kd.V_nil _ _ _ _ _, bel⟩
 rw [if_neg c3] at H; have c3b0 : decide (a1 < 0) = false := decide_eq_false c3; clear c3
 by_cases c4 : a1 ≥ (l0.length : Int)
 ·rw [if_pos c4] at H; have c4b0 : decide ((l0.length : Int) ≤ a1) = true := decide_eq_true c4; clear c4; obtain rfl := Option.some.inj H; go_enter Try.func73, Try.ntmps73; go_wp2; go_ret; exact ⟨_, ren, Kd.V_nil _ _ _ _ _, bel⟩
 rw [if_neg c4] at H; have c4b0 : decide ((l0.length : Int) ≤ a1) = false := decide_eq_false c4; clear c4; replace H := ifd H; obtain ⟨c5b0, H⟩ := H; replace H := ifd H; obtain ⟨c6b0, H⟩ := H; obtain rfl := Option.some.inj H; have p370 : 0 ≤ (a1 : Int) := oda; have q370 : a1 < (l0.length : Int) := oda; obtain ⟨ad370, A370_0, c370_0, e370, hx370_0, hl370_0, hi370_0⟩ := at_L2 (Kd.V_reads' HO0.out).2.2 a1 p370 q370; cases e370; obtain ⟨ce370, hce370, hMe370, hcc370⟩ := Kd.V_get HO0.out [] a1 p370 (by first | exact q370 | exact oda | (have e_ := (Kd.V_reads' HO0.out).1; omega))
 obtain ⟨ua370_0, uc370_0, rfl, ul370_0, ge370_0⟩ := Kd.FK_slice_open hMe370; have hv370_0 := hcc370 0 _ rfl; rw [Nat.add_zero, show ((Kd.slice 3 (Kd.int .i64))).sz = 1 from rfl, Nat.mul_one] at hv370_0; replace hv370_0 := Option.some.inj (hv370_0.symm.trans hx370_0); injection hv370_0 with hva_ hvn_ hvc_
 rw [hva_] at ge370_0; rw [hvc_] at ul370_0; have HL370_0 := Aside0.mk (show Kd.V (Kd.int .i64) 3 _ w.heap.size _ _ (rd_L2 l0 a1) from Kd.V_mk ul370_0 ge370_0); clear hva_ hvn_ hvc_ ge370_0 ul370_0; clear hcc370 hce370; have HR370_0 := Aside0.mk hi370_0; have HC370_0 := Aside0.mk hl370_0; clear hi370_0 hl370_0; replace p370 := eq_true p370; replace q370 := eq_true q370; go_enter Try.func73, Try.ntmps73; go_wp2; go_ret; exact ⟨_, ren, by (with_reducible repeat (first | apply Kd.V_alloc | apply Kd.V_drewN | apply Kd.V_drew)); exact HL370_0.out, bel⟩
def codewrightref40_Add.l0 : Nat → List (List Int) → List (List Int) → List (List Int) → Int → Int → Int → List Int → Option ((List (List Int)))
 | 0, _, _, _, _, _, _, _ => none
 | k + 1, x1, x2, x7, x8, x372000, x372001, x372002 => if x8 < (x7.length : Int) then ((codewrightref40_At.f x1 x8).bind fun t375 => ((codewrightref40_At.f x2 x8).bind fun t378 => ((codewrightref05_Add.f k x372000 x372001 x372002 t375 t378).bind fun t381 => (if 0 ≤ x8 then (codewrightref40_Add.l0 k x1 x2 (x7.set (x8 : Int).toNat t381) (wrap64 (x8 + 1)) x372000 x372001 x372002) else (none))))) else ((codewrightref40_Canon.f k x372000 x372001 x372002 x7).bind fun t385 => (some t385))
def codewrightref40_Add.f (k : Nat) (a0_0 : Int) (a0_1 : Int) (l0_2 : List Int) (l1 : List (List Int)) (l2 : List (List Int)) : Option ((List (List Int))) := if 0 ≤ (mx (l1.length : Int) (l2.length : Int)) then (if (mx (l1.length : Int) (l2.length : Int) : Int).toNat ≤ 11728124029610 then (codewrightref40_Add.l0 k l1 l2 (List.replicate (mx (l1.length : Int) (l2.length : Int) : Int).toNat []) 0 a0_0 a0_1 l0_2) else (none)) else (none)
def codewrightref40_Add.T5 : Bool × List (List Nat × List Nat) := (true, [([], []), ([], []), ([], []), ([], []), ([], []), ([3, 4], [3, 4]), ([], []), ([], []), ([6, 7, 5], [6, 7]), ([2, 5, 8, 8], [2, 5, 8]), ([0, 1, 0, 1, 2, 3, 4, 5, 6, 7, 8, 9], [0, 1]), ([10, 9, 9, 0, 1, 2, 3, 4, 5, 6, 7, 8, 9], [9, 10])])
def codewrightref40_Add.B5 : List Nat := [0, 0, 0, 0, 0, 24, 0, 0, 248, 508, 1023, 2047]
theorem codewrightref40_Add.tab5 : rtab .any (opsOf Try.f30 5) = codewrightref40_Add.T5 := by kernel_rfl
theorem codewrightref40_Add.bits5 : waitsOk codewrightref40_Add.T5.2 codewrightref40_Add.B5 = true := by kernel_rfl
theorem codewrightref40_Add.calls (k : Nat) (a0_0 : Int) (a0_1 : Int) (A0_2 : Option Addr) (c0_2 : Nat) (l0_2 : List Int) (P1_ : Nat → Prop) (A1 : Option Addr) (c1 : Nat) (l1 : List (List Int)) (P2_ : Nat → Prop) (A2 : Option Addr) (c2 : Nat) (l2 : List (List Int)) (r : List (List Int)) (w : World) (hr0_2 : Kd.C (Kd.int .i64) w A0_2 l0_2.length l0_2) (hc0_2 : l0_2.length ≤ c0_2) (hs1 : Kd.V (Kd.slice 3 (Kd.int .i64)) 31 w w.heap.size (fun k_ => P1_ k_) (.slice A1 l1.length c1) l1) (hs2 : Kd.V (Kd.slice 3 (Kd.int .i64)) 31 w w.heap.size (fun k_ => P2_ k_) (.slice A2 l2.length c2) l2) (h : codewrightref40_Add.f k a0_0 a0_1 l0_2 l1 l2 = some r) :
  Calls Try.prog 30 #[.agg #[.int .i64 a0_0, .int .i64 a0_1, .slice A0_2 l0_2.length c0_2], .slice A1 l1.length c1, .slice A2 l2.length c2] w fun e w' => ∃ v0_ : Value, e = .returned (v0_) ∧ Kd.N (Kd.slice 3 (Kd.int .i64)) 31 w' w.heap.size (fun k_ => ((P1_ k_ ∨ P2_ k_) ∨ w.heap.size ≤ k_)) v0_ r ∧ Below w.heap.size w w' := by
 have hu33 := Try.underlying33
 have HR0_2 := Aside0.mk hr0_2
 have HC0_2 := Aside0.mk hc0_2
 clear hr0_2 hc0_2
 have HO1 := Aside0.mk (show Kd.V (Kd.slice 3 (Kd.int .i64)) 31 w w.heap.size (fun k_ => ((P1_ k_ ∨ P2_ k_) ∨ w.heap.size ≤ k_)) (.slice A1 l1.length c1) l1 from Kd.V_mono hs1 (fun k_ hk => .inl (.inl hk)))
 have HO2 := Aside0.mk (show Kd.V (Kd.slice 3 (Kd.int .i64)) 31 w w.heap.size (fun k_ => ((P1_ k_ ∨ P2_ k_) ∨ w.heap.size ≤ k_)) (.slice A2 l2.length c2) l2 from Kd.V_mono hs2 (fun k_ hk => .inl (.inr hk)))
 have HB := Aside0.mk (Below.refl w.heap.size w)
 have H : (if 0 ≤ (mx (l1.length : Int) (l2.length : Int)) then (if (mx (l1.length : Int) (l2.length : Int) : Int).toNat ≤ 11728124029610 then (codewrightref40_Add.l0 k l1 l2 (List.replicate (mx (l1.length : Int) (l2.length : Int) : Int).toNat []) 0 a0_0 a0_1 l0_2) else (none)) else (none)) = some r := h
 clear h
 generalize hji4 : (mx (l1.length : Int) (l2.length : Int)) = ji4 at H
 (try (have hji4l : 0 ≤ ji4 := by (rw [← hji4]; unfold mx; (repeat' split) <;> omega)))
 (try (have hji4m : 0 ≤ ji4 := by omega))
 have hji4_ : (if (l1.length : Int) < (l2.length : Int) then (l2.length : Int) else (l1.length : Int)) = ji4 := hji4
 have hji4n : (if l1.length < l2.length then (l2.length : Int) else (l1.length : Int)) = ji4 := by rw [← hji4_]; simp only [Int.ofNat_lt]
 replace H := ift H; obtain ⟨c5b0, c5b1, H⟩ := H
 replace H := ift H; obtain ⟨c6b0, c6b1, H⟩ := H
 generalize hy372 : ((List.replicate (ji4 : Int).toNat []) : List (List Int)) = y372 at H; have Ny372 := Aside0.mk hy372.symm; clear hy372
 have H' := Aside0.mk H
 clear H
 go_enter Try.func30, Try.ntmps30
 go_wp2_with (first | ((with_reducible refine gate_dst (N := 3) rfl ?_); refine bx (cs := #[.int .i64 a0_0, .int .i64 a0_1, .slice A0_2 l0_2.length c0_2]) (t := 33) ?_; intro gb371 hg w7 hbox hb; replace HO1 := Aside0.mk (Kd.V_below (Kd.V_elderB (va HO1) gb371 (Nat.le_of_eq hg.symm)) hb); replace HO2 := Aside0.mk (Kd.V_below (Kd.V_elderB (va HO2) gb371 (Nat.le_of_eq hg.symm)) hb); have BK371 := Aside0.mk (hbox); have GW371 := Aside0.mk ((by rw [hg]; exact bsz : w.heap.size ≤ gb371)); have GE371 := Aside0.mk ((by rw [hg]; exact bsz : w.heap.size ≤ gb371)); replace HB := bst hb; clear hb hbox hg) | ((with_reducible refine gate_dst (N := 14) rfl ?_); refine Kd.N_make (Kd.slice 3 (Kd.int .i64)) _ 31 rfl (N' := 14) rfl 35 _ _ rfl ji4 rfl rfl Try.underlying35 (.slice none 0 0) 24 info31 rfl (by decide) (by omega) [] (ok := fun k_ => w7.heap.size ≤ k_) (okp := fun _ => False) (Kd.FK_slice_mk (Nat.le_refl _) (Kd.F_nil _ _ _)) (fun _ hk => hk.elim) (Nat.le_refl _) (oda) (Nat.le_trans (Nat.mul_le_mul_right _ (oda : ji4.toNat ≤ 11728124029610)) (by omega)) (Below.refl _ _) (Nat.le_refl _) ?_; intro v373 w8 ho9 hb hg_ hnew_; clear hg_ hnew_; (first | rw [← Ny372.out] at ho9 | (simp only [Int.reduceToNat] at ho9; rw [← Ny372.out] at ho9)); replace HO1 := Aside0.mk (Kd.V_elder' (va HO1) (Kd.N_base ho9) hb); replace HO2 := Aside0.mk (Kd.V_elder' (va HO2) (Kd.N_base ho9) hb); have HO374 := Aside0.mk (Kd.N_lower (Kd.N_mono (ok' := fun k_ => ((P1_ k_ ∨ P2_ k_) ∨ w.heap.size ≤ k_) ∧ k_ ≠ gb371) ho9 (fun k_ hk_ => ⟨(.inr (Nat.le_trans bsz hk_)), (Kd.freshB (g := gb371) (o := .cells #[.int .i64 a0_0, .int .i64 a0_1, .slice A0_2 l0_2.length c0_2] 33 (0, 0)) (ba BK371) k_ hk_)⟩)) bsz); replace BK371 := Aside0.mk (blk_below (g := gb371) (o := .cells #[.int .i64 a0_0, .int .i64 a0_1, .slice A0_2 l0_2.length c0_2] 33 (0, 0)) (ba BK371) hb); replace HB := bst hb; clear hb ho9))
 go_loopg [8] k (fun kq v8 w' => ∃ (x7_1 : List (List Int)) (x8_1 : Int), v8 = .int .i64 x8_1 ∧ Aside0 (codewrightref40_Add.l0 kq l1 l2 x7_1 x8_1 a0_0 a0_1 l0_2 = some r) ∧ Aside0 (kq ≤ k) ∧ Aside0 (Kd.V (Kd.slice 3 (Kd.int .i64)) 31 w' w.heap.size (fun k_ => ((P1_ k_ ∨ P2_ k_) ∨ w.heap.size ≤ k_) ∧ some k_ ≠ (v373 : Value).ownBlock ∧ k_ ≠ gb371) (.slice A1 l1.length c1) l1) ∧ Aside0 (Kd.V (Kd.slice 3 (Kd.int .i64)) 31 w' w.heap.size (fun k_ => ((P1_ k_ ∨ P2_ k_) ∨ w.heap.size ≤ k_) ∧ some k_ ≠ (v373 : Value).ownBlock ∧ k_ ≠ gb371) (.slice A2 l2.length c2) l2) ∧ Aside0 (Kd.N (Kd.slice 3 (Kd.int .i64)) 31 w' w.heap.size (fun k_ => ((P1_ k_ ∨ P2_ k_) ∨ w.heap.size ≤ k_) ∧ k_ ≠ gb371) v373 x7_1) ∧ Aside0 (w'.heap[gb371]? = some (.cells #[.int .i64 a0_0, .int .i64 a0_1, (.slice A0_2 l0_2.length c0_2)] 33 (0, 0))) ∧ Aside0 (Below w.heap.size w w'))
 case atStart => exact ⟨(y372), (0), rs, H', ⟨Nat.le_refl _⟩, ⟨Kd.V_mono (va HO1) (fun _ hk => ⟨hk.1.1, ⟨hk.2, hk.1.2⟩⟩)⟩, ⟨Kd.V_mono (va HO2) (fun _ hk => ⟨hk.1.1, ⟨hk.2, hk.1.2⟩⟩)⟩, ⟨na HO374⟩, ⟨ba BK371⟩, ⟨bel⟩⟩
 clear H'
 obtain ⟨x7_1, x8_1, rfl, HA, HK1, HO_1, HO_2, HO_7, BK371, HB⟩ := hrel
 rcases gk with _ | k1
 ·exact absurd HA.out (by simp [codewrightref40_Add.l0])
 have H := HA.out
 clear HA
 simp only [codewrightref40_Add.l0] at H
 by_cases c10 : x8_1 < (x7_1.length : Int)
 ·rw [if_pos c10] at H
  have c10b0 : decide (x8_1 < (x7_1.length : Int)) = true := decide_eq_true c10
  clear c10
  replace H := bz H; obtain ⟨t375, A11, H⟩ := H
  replace H := bz H; obtain ⟨t378, A12, H⟩ := H
  replace H := bz H; obtain ⟨t381, A13, H⟩ := H
  replace H := ifd H; obtain ⟨c14b0, H⟩ := H
  generalize hy384 : ((x7_1.set (x8_1 : Int).toNat t381) : List (List Int)) = y384 at H; have Ny384 := Aside0.mk hy384.symm; clear hy384
  have H' := Aside0.mk H
  clear H
  obtain ⟨Ao16, co16, eo16⟩ := Kd.N_slice HO_7.out
  subst eo16
  try go_wp2
  replace HO_1 := Aside0.mk (Kd.V_drew HO_1.out)
  replace HO_2 := Aside0.mk (Kd.V_drew HO_2.out)
  replace HO_7 := Aside0.mk (Kd.N_drew HO_7.out)
  replace BK371 := Aside0.mk (blk_drew BK371.out)
  replace HB := Aside0.mk (below_drew1 HB.out)
  refine st_ (S := fun w' => w'.cell? ⟨gb371, 0, none⟩ = some (.int .i64 a0_0) ∧ w'.cell? ⟨gb371, 1, none⟩ = some (.int .i64 a0_1) ∧ w'.cell? ⟨gb371, 2, none⟩ = some (.slice A0_2 l0_2.length c0_2)) (ds := [11]) 12 codewrightref40_Add.tab5 codewrightref40_Add.bits5 ⟨bc BK371 0, bc BK371 1, bc BK371 2⟩ fun hHeld HT_ HW_ => ?_
  generalize wr.drew = w17 at HO_1 HO_2 HO_7 BK371 HB hHeld ⊢
  refine pu 0 21 (bm 12 1) ?_
  refine pu 1 22 (bm 12 3) ?_
  refine pu 3 24 (bm 12 11) ?_
  refine pu 4 25 (bm 12 27) ?_
  refine pu 6 27 (bm 12 91) ?_
  refine pu 7 28 (bm 12 219) ?_
  refine take_ (i := 2) (N := some 23) (v := ?_) (a' := ?_) (bm 12 223) rfl rfl (take_ofW HT_.out HW_.out (by kernel_rfl)) (fun _ _ _ h => h) (Or.inl ⟨by rfl, ?_⟩) hHeld ?_ ?_
  rotate_left
  ·rintro w' ⟨s0, s1, s2⟩
   go_simp
   with_reducible rfl
  rotate_left
  ·simp only [Act.put, List.setIfInBounds_toArray, List.set_cons_zero, List.set_cons_succ, i64_w, i32_w]
   rfl
  refine on 5 26 (bm 12 255) fun K hK => ?_
  refine gs Try.func73 #[.slice A1 l1.length c1, .int .i64 x8_1] ?_
  with_reducible refine (codewrightref40_At.calls (fun k_ => (((P1_ k_ ∨ P2_ k_) ∨ w.heap.size ≤ k_) ∧ (some k_ ≠ (.slice Ao16 x7_1.length co16 : Value).ownBlock ∧ k_ ≠ gb371))) _ _ l1 x8_1 t375 _ ?side1 A11.out).mono ?_
  (case side1 => exact HO_1.out)
  rintro e w18 ⟨v376, rfl, ho0, hb⟩
  refine ⟨_, rfl, ?_⟩
  replace HO_1 := Aside0.mk (Kd.V_below (va HO_1) hb)
  replace HO_2 := Aside0.mk (Kd.V_below (va HO_2) hb)
  have HO377 := Aside0.mk (Kd.V_lower (Kd.V_mono (ok' := fun k_ => ((P1_ k_ ∨ P2_ k_) ∨ w.heap.size ≤ k_) ∧ some k_ ≠ (.slice Ao16 x7_1.length co16 : Value).ownBlock ∧ k_ ≠ gb371) ho0 (fun k_ hk_ => ⟨Or.elim hk_ (fun hs_ => hs_.1) (fun hn_ => (.inr (Nat.le_trans bsz hn_))), Or.elim hk_ (fun hs_ => hs_.2.1) (fun hn_ => (Kd.fresh' (Kd.N_lt (na HO_7)) k_ hn_)), Or.elim hk_ (fun hs_ => hs_.2.2) (fun hn_ => (Kd.freshB (g := gb371) (o := .cells #[.int .i64 a0_0, .int .i64 a0_1, .slice A0_2 l0_2.length c0_2] 33 (0, 0)) (ba BK371) k_ hn_))⟩)) bsz)
  replace HO_7 := Aside0.mk (Kd.N_below (na HO_7) hb)
  replace BK371 := Aside0.mk (blk_below (g := gb371) (o := .cells #[.int .i64 a0_0, .int .i64 a0_1, .slice A0_2 l0_2.length c0_2] 33 (0, 0)) (ba BK371) hb)
  replace HB := bst hb
  refine hK.out _ _ ⟨bc BK371 0, bc BK371 1, bc BK371 2⟩ (fun hHeld => ?_)
  clear hK K
  refine nmz 26 ?_
  refine on 8 29 (bm 12 511) fun K hK => ?_
  refine gs Try.func73 #[.slice A2 l2.length c2, .int .i64 x8_1] ?_
  with_reducible refine (codewrightref40_At.calls (fun k_ => (((P1_ k_ ∨ P2_ k_) ∨ w.heap.size ≤ k_) ∧ (some k_ ≠ (.slice Ao16 x7_1.length co16 : Value).ownBlock ∧ k_ ≠ gb371))) _ _ l2 x8_1 t378 _ ?side1 A12.out).mono ?_
  (case side1 => exact HO_2.out)
  rintro e w19 ⟨v379, rfl, ho0, hb⟩
  refine ⟨_, rfl, ?_⟩
  replace HO_1 := Aside0.mk (Kd.V_below (va HO_1) hb)
  replace HO_2 := Aside0.mk (Kd.V_below (va HO_2) hb)
  replace HO377 := Aside0.mk (Kd.V_below (va HO377) hb)
  have HO380 := Aside0.mk (Kd.V_lower (Kd.V_mono (ok' := fun k_ => ((P1_ k_ ∨ P2_ k_) ∨ w.heap.size ≤ k_) ∧ some k_ ≠ (.slice Ao16 x7_1.length co16 : Value).ownBlock ∧ k_ ≠ gb371) ho0 (fun k_ hk_ => ⟨Or.elim hk_ (fun hs_ => hs_.1) (fun hn_ => (.inr (Nat.le_trans bsz hn_))), Or.elim hk_ (fun hs_ => hs_.2.1) (fun hn_ => (Kd.fresh' (Kd.N_lt (na HO_7)) k_ hn_)), Or.elim hk_ (fun hs_ => hs_.2.2) (fun hn_ => (Kd.freshB (g := gb371) (o := .cells #[.int .i64 a0_0, .int .i64 a0_1, .slice A0_2 l0_2.length c0_2] 33 (0, 0)) (ba BK371) k_ hn_))⟩)) bsz)
  replace HO_7 := Aside0.mk (Kd.N_below (na HO_7) hb)
  replace BK371 := Aside0.mk (blk_below (g := gb371) (o := .cells #[.int .i64 a0_0, .int .i64 a0_1, .slice A0_2 l0_2.length c0_2] 33 (0, 0)) (ba BK371) hb)
  replace HB := bst hb
  obtain ⟨Ao20, co20, eo20⟩ := Kd.V_slice HO377.out
  (first | subst eo20 | (injection eo20 with f1_ f2_ f3_; have f4_ := f1_.symm; have f5_ := f3_.symm; clear f1_ f2_ f3_; subst f4_; subst f5_))
  obtain ⟨Ao21, co21, eo21⟩ := Kd.V_slice HO380.out
  (first | subst eo21 | (injection eo21 with f1_ f2_ f3_; have f4_ := f1_.symm; have f5_ := f3_.symm; clear f1_ f2_ f3_; subst f4_; subst f5_))
  refine hK.out _ _ ⟨bc BK371 0, bc BK371 1, bc BK371 2⟩ (fun hHeld => ?_)
  clear hK K
  refine nmz 29 ?_
  refine on 9 30 (bm 12 1023) fun K hK => ?_
  refine gs Try.func72 #[.agg #[.int .i64 a0_0, .int .i64 a0_1, .slice A0_2 l0_2.length c0_2], .slice Ao20 t375.length co20, .slice Ao21 t378.length co21] ?_
  with_reducible refine (codewrightref05_Add.calls k1 a0_0 a0_1 _ _ l0_2 _ _ t375 _ _ t378 t381 _ ?side1 ?side2 ?side3 ?side4 ?side5 ?side6 A13.out).mono ?_
  (case side1 => exact cb HR0_2)
  (case side2 => exact HC0_2.out)
  (case side3 => repeat (first | exact (Kd.V_reads' HO377.out).2.2 | (with_reducible refine Kd.C_alloc ?_ _) | (with_reducible refine Kd.C_drewN ?_ _) | (with_reducible refine Kd.C_drew ?_)))
  (case side4 => exact (Kd.V_reads' HO377.out).2.1)
  (case side5 => repeat (first | exact (Kd.V_reads' HO380.out).2.2 | (with_reducible refine Kd.C_alloc ?_ _) | (with_reducible refine Kd.C_drewN ?_ _) | (with_reducible refine Kd.C_drew ?_)))
  (case side6 => exact (Kd.V_reads' HO380.out).2.1)
  rintro e w22 ⟨v382, rfl, ho0, hb⟩
  refine ⟨_, rfl, ?_⟩
  have n0_ := Aside0.mk (Kd.V_elder' (va HO_1) (Kd.R_base ho0) hb)
  have n1_ := Aside0.mk (Kd.V_elder' (va HO_2) (Kd.R_base ho0) hb)
  have n2_ := Aside0.mk (Kd.N_elder' (na HO_7) (Kd.R_base ho0) hb)
  have n3_ := Aside0.mk (Kd.V_elder' (va HO377) (Kd.R_base ho0) hb)
  have n4_ := Aside0.mk (Kd.V_elder' (va HO380) (Kd.R_base ho0) hb)
  have n5_ := Aside0.mk (Kd.R_lower (Kd.R_newM (M := fun k_ => (w.heap.size ≤ k_)) ho0 bsz (fun k_ h_ => h_)) bsz)
  have n6_ := Aside0.mk (blk_below (g := gb371) (o := .cells #[.int .i64 a0_0, .int .i64 a0_1, .slice A0_2 l0_2.length c0_2] 33 (0, 0)) (ba BK371) hb)
  have n7_ := bst hb
  clear HO_1
  clear HO_2
  clear HO_7
  clear HO377
  clear HO380
  clear BK371
  clear HB
  have HO_1 := n0_
  have HO_2 := n1_
  have HO_7 := n2_
  have HO377 := n3_
  have HO380 := n4_
  have HO383 := n5_
  obtain ⟨Ao383, co383, eo383⟩ := Kd.R_slice HO383.out
  subst eo383
  have BK371 := n6_
  have HB := n7_
  clear n0_ n1_ n2_ n3_ n4_ n5_ n6_ n7_
  have p15 : 0 ≤ (x8_1 : Int) := oda
  have q15 : (x8_1 : Int) < ((x7_1.length : Int) : Int) := oda
  obtain ⟨go15, co15, eo15, gb15, gl15, cl15, HG15⟩ := Kd.N_form HO_7.out (by omega)
  (first | cases eo15 | (injection eo15 with ea_ en_ ec_; (first | subst ea_ | (injection ea_ with ea_; subst ea_)); subst ec_; clear en_))
  have GB15 := Aside0.mk gb15
  have GG15 := Aside0.mk HG15
  clear gb15 gl15 HG15
  obtain ⟨ce15, hcl15, hM15, hcc15, hfr15⟩ := Kd.N_elem HO_7.out [] (x8_1 : Int) p15 q15
  obtain ⟨ua15_0, uc15_0, rfl, ul15_0, ge15_0⟩ := Kd.FK_slice_open hM15
  have hx15_0 := hcc15 0 _ rfl
  have hf15_0 := hfr15 0
  (try simp only [show ((Kd.slice 3 (Kd.int .i64))).sz = 1 from rfl, Nat.mul_one, Nat.add_zero] at hx15_0)
  (try simp only [show ((Kd.slice 3 (Kd.int .i64))).sz = 1 from rfl, Nat.mul_one, Nat.add_zero] at hf15_0)
  clear hcl15 hcc15 hfr15; (try clear hM15)
  replace p15 := eq_true p15
  replace q15 := eq_true q15
  have HX23 := Aside0.mk (show Kd.N (Kd.slice 3 (Kd.int .i64)) 31 _ w.heap.size (fun k_ => ((P1_ k_ ∨ P2_ k_) ∨ w.heap.size ≤ k_) ∧ some k_ ≠ ((.slice Ao383 t381.length co383) : Value).ownBlock ∧ k_ ≠ gb371) (.slice (some ⟨go15, 0, none⟩) x7_1.length co16) x7_1 from (Kd.N_mono (HO_7.out) (fun k_ hk => ⟨hk.1.1, ⟨hk.2, hk.1.2⟩⟩)))
  replace HX23 := Aside0.mk (show Kd.N (Kd.slice 3 (Kd.int .i64)) 31 _ w.heap.size (fun k_ => ((P1_ k_ ∨ P2_ k_) ∨ w.heap.size ≤ k_) ∧ k_ ≠ gb371) (.slice (some ⟨go15, 0, none⟩) x7_1.length co16) x7_1 from Kd.N_mono HX23.out (fun k_ hk => ⟨hk.1, hk.2.2⟩))
  obtain ⟨ce23, hcl23, hM23, hcc23, hfr23⟩ := Kd.N_elem HX23.out [] (x8_1 : Int) (oda) (by have h_ : (x8_1 : Int) < ((x7_1.length : Int) : Int) := oda; first | exact h_ | (have e_ := (Kd.N_reads' HO_7.out).1; omega) | simpa using h_)
  obtain ⟨ua23_0, uc23_0, rfl, ul23_0, ge23_0⟩ := Kd.FK_slice_open hM23
  have HT1_ := (Kd.R_types (Kd.R_apart' (HO383.out) (Kd.N_typed HO_7.out) (by decide)) BK371.out (by decide)); have HM1_ := Kd.R_mono (ok' := (fun k_ => ((fun k_ => ((P1_ k_ ∨ P2_ k_) ∨ w.heap.size ≤ k_) ∧ k_ ≠ gb371)) k_ ∧ k_ ≠ go15)) HT1_ (fun k_ hk => ⟨⟨(.inr (hk.1.1.1)), hk.2⟩, fun e_ => (hk.1.2) (by rw [e_]; rfl)⟩); have HP23 := (Kd.N_seg HX23.out (x8_1 : Int) (oda) (by have h_ : (x8_1 : Int) < ((x7_1.length : Int) : Int) := oda; first | exact h_ | (have e_ := (Kd.N_reads' HO_7.out).1; omega) | simpa using h_) (seg := [(.slice Ao383 t381.length co383)]) (j := 0) hcl23 hcc23 (show 1 ≤ 1 from by decide) (x' := t381) (FK_of_R HM1_) (fun _ hk => hk)).1
  (try simp only [show ((Kd.slice 3 (Kd.int .i64))).sz = 1 from rfl, Nat.mul_one, Nat.add_zero] at HP23)
  rw [← Ny384.out] at HP23
  have HQ23 := Aside0.mk HP23
  clear hcl23 hcc23 hfr23 hM23 HP23
  refine hK.out _ _ ⟨bc BK371 0, bc BK371 1, bc BK371 2⟩ (fun hHeld => ?_)
  clear hK K
  refine nmz 30 ?_
  refine pu 10 31 (bm 12 2047) ?_
  refine last_ (i := 11) (N := none) (bm 12 4095) rfl rfl (one_of HT_.out (by kernel_rfl)) (by decide) fun K hK => ?_
  refine skip_ (w1 := ?_) (by rfl) rfl ?_ ?_
  rotate_left
  ·go_simp
   rfl
  refine hK.out _ _ ?_
  clear hK K
  refine dn ?_
  try go_wp2
  go_roundg k1
  case measure => have := HK1.out; omega
  case rel => exact ⟨(y384), (wrap64 (x8_1 + 1)), rs, H', ⟨by have := HK1.out; omega⟩, ⟨by (with_reducible repeat (first | apply Kd.V_alloc | apply Kd.V_drewN | apply Kd.V_drew)); exact Kd.V_mono (Kd.V_far (p := ⟨go15, (x8_1 : Int).toNat, none⟩) (Kd.V_mono HO_1.out (fun k_ hk => (⟨hk, fun e_ => hk.1.2.1 (by rw [e_]; rfl)⟩ : _ ∧ k_ ≠ go15))) (fun _ hk => hk.2) ((.slice Ao383 t381.length co383))) (fun _ hk => ⟨hk.1.1.1, ⟨hk.1.1.2.1, hk.1.1.2.2⟩⟩)⟩, ⟨by (with_reducible repeat (first | apply Kd.V_alloc | apply Kd.V_drewN | apply Kd.V_drew)); exact Kd.V_mono (Kd.V_far (p := ⟨go15, (x8_1 : Int).toNat, none⟩) (Kd.V_mono HO_2.out (fun k_ hk => (⟨hk, fun e_ => hk.1.2.1 (by rw [e_]; rfl)⟩ : _ ∧ k_ ≠ go15))) (fun _ hk => hk.2) ((.slice Ao383 t381.length co383))) (fun _ hk => ⟨hk.1.1.1, ⟨hk.1.1.2.1, hk.1.1.2.2⟩⟩)⟩, ⟨na HQ23⟩, ⟨by (with_reducible repeat (first | refine blk_drewN ?_ _ | refine blk_drew ?_ | refine blk_alloc ?_ _)); refine blk_far ?_ (by have h_ := Kd.N_away HO_7.out (fun _ hk => by first | exact hk.2 | exact hk.1.2 | exact hk.2.2 | exact hk.2.1 | exact hk.1.1.2 | exact hk.1.2.2 | exact hk.2.2.2 | exact hk.2.1.2 | exact hk.2.2.1); intro e_; exact h_ (by rw [e_]; rfl)) _; exact ba BK371⟩, ⟨bel⟩⟩
 rw [if_neg c10] at H
 have c10b0 : decide (x8_1 < (x7_1.length : Int)) = false := decide_eq_false c10
 clear c10
 replace H := bz H; obtain ⟨t385, A24, H⟩ := H
 obtain rfl := Option.some.inj H
 obtain ⟨Ao25, co25, eo25⟩ := Kd.N_slice HO_7.out
 subst eo25
 obtain ⟨hcz26_0, hcz26_1, hcz26_2, hfz26_0, hfz26_1, hfz26_2⟩ := b3 BK371
 go_wp2_with (first | ((with_reducible refine gate_callee (f := 28) rfl ?_); refine gl (some 34) Try.func28 #[.agg #[.int .i64 a0_0, .int .i64 a0_1, .slice A0_2 l0_2.length c0_2], .slice Ao25 x7_1.length co25] ?_; (with_reducible refine (codewrightref40_Canon.calls k1 a0_0 a0_1 _ _ l0_2 _ _ x7_1 t385 _ ?side1 ?side2 ?side3 ?side4 A24.out).mono ?_); (case side1 => exact cb HR0_2); (case side2 => exact HC0_2.out); (case side3 => repeat (first | exact (Kd.N_reads' HO_7.out).2.2 | (with_reducible refine Kd.C_alloc ?_ _) | (with_reducible refine Kd.C_drewN ?_ _) | (with_reducible refine Kd.C_drew ?_))); (case side4 => exact (Kd.N_reads' HO_7.out).2.1); rintro e w27 ⟨v386, rfl, ho0, hb⟩; refine ⟨_, rfl, ?_⟩; replace HO_1 := Aside0.mk (Kd.V_elder' (va HO_1) (Kd.N_base ho0) hb); replace HO_2 := Aside0.mk (Kd.V_elder' (va HO_2) (Kd.N_base ho0) hb); have HO387 := Aside0.mk (Kd.N_lower (Kd.N_mono (ok' := fun k_ => ((P1_ k_ ∨ P2_ k_) ∨ w.heap.size ≤ k_) ∧ some k_ ≠ (.slice Ao25 x7_1.length co25 : Value).ownBlock ∧ k_ ≠ gb371) ho0 (fun k_ hk_ => ⟨(.inr (Nat.le_trans bsz hk_)), (Kd.fresh' (Kd.N_lt (na HO_7)) k_ hk_), (Kd.freshB (g := gb371) (o := .cells #[.int .i64 a0_0, .int .i64 a0_1, .slice A0_2 l0_2.length c0_2] 33 (0, 0)) (ba BK371) k_ hk_)⟩)) bsz); replace HO_7 := Aside0.mk (Kd.N_elder' (na HO_7) (Kd.N_base ho0) hb); replace BK371 := Aside0.mk (blk_below (g := gb371) (o := .cells #[.int .i64 a0_0, .int .i64 a0_1, .slice A0_2 l0_2.length c0_2] 33 (0, 0)) (ba BK371) hb); replace HB := bst hb))
 go_ret
 exact ⟨_, by first | rfl | (simp [errW_none, errW_some] <;> rfl) | (simp only [← hji4]; first | rfl | (simp [errW_none, errW_some] <;> rfl)) | (simp [*, errW_none, errW_some] <;> rfl), Kd.N_mono (na HO387) (fun _ hk => hk.1), bel⟩
mutual
def codewrightref04_Mul.l0 : Nat → List Int → List Int → List Int → Int → Int → Int → List Int → Option (Int)
 | 0, _, _, _, _, _, _, _ => none
 | k + 1, x7, x8, x9, x10, x389000, x389001, x389002 => if x10 < x389001 then (codewrightref04_Mul.l1 k x7 x8 x9 x10 0 x389000 x389001 x389002) else (codewrightref04_Mul.l2 k x9 (wrap64 ((wrap64 (2 * x389001)) - 2)) x389000 x389001 x389002)
def codewrightref04_Mul.l1 : Nat → List Int → List Int → List Int → Int → Int → Int → Int → List Int → Option (Int)
 | 0, _, _, _, _, _, _, _, _ => none
 | k + 1, x7, x8, x9, x10, x11, x389000, x389001, x389002 => if x11 < x389001 then (if 0 ≤ (wrap64 (x10 + x11)) then (if (wrap64 (x10 + x11)) < (x9.length : Int) then (if 0 ≤ x10 then (if x10 < (x7.length : Int) then (if 0 ≤ x11 then (if x11 < (x8.length : Int) then (if x389000 = 0 then (none) else (codewrightref04_Mul.l1 k x7 x8 (x9.set ((wrap64 (x10 + x11)) : Int).toNat (Int.tmod (wrap64 ((rd x9 (wrap64 (x10 + x11))) + (wrap64 ((rd x7 x10) * (rd x8 x11))))) x389000)) x10 (wrap64 (x11 + 1)) x389000 x389001 x389002)) else (none)) else (none)) else (none)) else (none)) else (none)) else (none)) else (codewrightref04_Mul.l0 k x7 x8 x9 (wrap64 (x10 + 1)) x389000 x389001 x389002)
def codewrightref04_Mul.l2 : Nat → List Int → Int → Int → Int → List Int → Option (Int)
 | 0, _, _, _, _, _ => none
 | k + 1, x9, x12, x389000, x389001, x389002 => if x12 ≥ x389001 then (codewrightref04_Mul.l3 k x9 x12 0 x389000 x389001 x389002) else (if 0 ≤ x389001 then (if x389001 ≤ (x9.length : Int) then ((codewrightref04_Value.f k x389000 x389001 x389002 (x9.take (x389001 : Int).toNat)).bind fun t406 => (some t406)) else (none)) else (none))
def codewrightref04_Mul.l3 : Nat → List Int → Int → Int → Int → Int → List Int → Option (Int)
 | 0, _, _, _, _, _, _ => none
 | k + 1, x9, x12, x13, x389000, x389001, x389002 => if x13 < x389001 then (if 0 ≤ (wrap64 ((wrap64 (x12 - x389001)) + x13)) then (if (wrap64 ((wrap64 (x12 - x389001)) + x13)) < (x9.length : Int) then (if 0 ≤ x12 then (if x12 < (x9.length : Int) then (if 0 ≤ x13 then (if x13 < (x389002.length : Int) then (if x389000 = 0 then (none) else (codewrightref04_Mul.l3 k (x9.set ((wrap64 ((wrap64 (x12 - x389001)) + x13)) : Int).toNat (Int.tmod (wrap64 ((rd x9 (wrap64 ((wrap64 (x12 - x389001)) + x13))) + (wrap64 ((wrap64 (x389000 - (rd x9 x12))) * (rd x389002 x13))))) x389000)) x12 (wrap64 (x13 + 1)) x389000 x389001 x389002)) else (none)) else (none)) else (none)) else (none)) else (none)) else (none)) else (codewrightref04_Mul.l2 k x9 (wrap64 (x12 - 1)) x389000 x389001 x389002)
end
def codewrightref04_Mul.f (k : Nat) (a0_0 : Int) (a0_1 : Int) (l0_2 : List Int) (a1 : Int) (a2 : Int) : Option (Int) := (codewrightref04_Digits.f k a0_0 a0_1 l0_2 a1).bind fun t389 => ((codewrightref04_Digits.f k a0_0 a0_1 l0_2 a2).bind fun t392 => (if 0 ≤ (wrap64 ((wrap64 (2 * a0_1)) - 1)) then (if (wrap64 ((wrap64 (2 * a0_1)) - 1) : Int).toNat ≤ 35184372088832 then (codewrightref04_Mul.l0 k t389 t392 (List.replicate (wrap64 ((wrap64 (2 * a0_1)) - 1) : Int).toNat 0) 0 a0_0 a0_1 l0_2) else (none)) else (none)))
def codewrightref04_Mul.T10 : Bool × List (List Nat × List Nat) := (true, [([], []), ([], []), ([], []), ([1, 2], [1, 2]), ([], []), ([], []), ([], []), ([5, 6], [5, 6]), ([4, 7], [4, 7]), ([8], [8]), ([], []), ([], []), ([10, 11], [10, 11]), ([12], [12]), ([], []), ([], []), ([14, 15], [14, 15]), ([16], [16]), ([13, 17], [13, 17]), ([9, 18], [9, 18]), ([], []), ([20], [20]), ([19, 21], [19, 21]), ([0, 3, 0, 1, 2, 3, 4, 5, 6, 7, 8, 9, 10, 11, 12, 13, 14, 15, 16, 17, 18, 19, 20, 21, 22], [0, 3]), ([23, 22, 0, 1, 2, 3, 4, 5, 6, 7, 8, 9, 10, 11, 12, 13, 14, 15, 16, 17, 18, 19, 20, 21, 22], [22, 23])])
def codewrightref04_Mul.B10 : List Nat := [0, 0, 0, 6, 0, 0, 0, 96, 240, 496, 0, 0, 3072, 7168, 0, 0, 49152, 114688, 261120, 524272, 0, 1048576, 4194288, 8388607, 16777215]
theorem codewrightref04_Mul.tab10 : rtab .any (opsOf Try.f48 10) = codewrightref04_Mul.T10 := by kernel_rfl
theorem codewrightref04_Mul.bits10 : waitsOk codewrightref04_Mul.T10.2 codewrightref04_Mul.B10 = true := by kernel_rfl
def codewrightref04_Mul.T17 : Bool × List (List Nat × List Nat) := (true, [([], []), ([], []), ([], []), ([2], [2]), ([1, 3], [1, 3]), ([], []), ([4, 5], [4, 5]), ([], []), ([], []), ([], []), ([9], [9]), ([8, 10], [8, 10]), ([], []), ([11, 12], [11, 12]), ([7, 13], [7, 13]), ([14], [14]), ([], []), ([16], [16]), ([], []), ([], []), ([18, 19], [18, 19]), ([20], [20]), ([17, 21], [17, 21]), ([], []), ([23], [23]), ([], []), ([24, 25], [24, 25]), ([26], [26]), ([22, 27], [22, 27]), ([15, 28], [15, 28]), ([], []), ([30], [30]), ([29, 31], [29, 31]), ([0, 6, 0, 1, 2, 3, 4, 5, 6, 7, 8, 9, 10, 11, 12, 13, 14, 15, 16, 17, 18, 19, 20, 21, 22, 23, 24, 25, 26, 27, 28, 29, 30, 31, 32], [0, 6]), ([33, 32, 0, 1, 2, 3, 4, 5, 6, 7, 8, 9, 10, 11, 12, 13, 14, 15, 16, 17, 18, 19, 20, 21, 22, 23, 24, 25, 26, 27, 28, 29, 30, 31, 32], [32, 33])])
def codewrightref04_Mul.B17 : List Nat := [0, 0, 0, 4, 14, 0, 62, 0, 0, 0, 512, 1792, 0, 7936, 16256, 32640, 0, 65536, 0, 0, 786432, 1835008, 4128768, 0, 8388608, 0, 58720256, 125829120, 268369920, 536870784, 0, 1073741824, 4294967168, 8589934591, 17179869183]
theorem codewrightref04_Mul.tab17 : rtab .any (opsOf Try.f48 17) = codewrightref04_Mul.T17 := by kernel_rfl
theorem codewrightref04_Mul.bits17 : waitsOk codewrightref04_Mul.T17.2 codewrightref04_Mul.B17 = true := by kernel_rfl
theorem codewrightref04_Mul.calls (k : Nat) (a0_0 : Int) (a0_1 : Int) (A0_2 : Option Addr) (c0_2 : Nat) (l0_2 : List Int) (a1 : Int) (a2 : Int) (r : Int) (w : World) (hr0_2 : Kd.C (Kd.int .i64) w A0_2 l0_2.length l0_2) (hc0_2 : l0_2.length ≤ c0_2) (h : codewrightref04_Mul.f k a0_0 a0_1 l0_2 a1 a2 = some r) :
  Calls Try.prog 48 #[.agg #[.int .i64 a0_0, .int .i64 a0_1, .slice A0_2 l0_2.length c0_2], .int .i64 a1, .int .i64 a2] w fun e w' => e = .returned (.int .i64 r) ∧ Below w.heap.size w w' := by
 have hu33 := Try.underlying33; have HR0_2 := Aside0.mk hr0_2; have HC0_2 := Aside0.mk hc0_2; clear hr0_2 hc0_2; have HB := Aside0.mk (Below.refl w.heap.size w); have H : ((codewrightref04_Digits.f k a0_0 a0_1 l0_2 a1).bind fun t389 => ((codewrightref04_Digits.f k a0_0 a0_1 l0_2 a2).bind fun t392 => (if 0 ≤ (wrap64 ((wrap64 (2 * a0_1)) - 1)) then (if (wrap64 ((wrap64 (2 * a0_1)) - 1) : Int).toNat ≤ 35184372088832 then (codewrightref04_Mul.l0 k t389 t392 (List.replicate (wrap64 ((wrap64 (2 * a0_1)) - 1) : Int).toNat 0) 0 a0_0 a0_1 l0_2) else (none)) else (none)))) = some r := h; clear h; replace H := bz H; obtain ⟨t389, A4, H⟩ := H; replace H := bz H; obtain ⟨t392, A5, H⟩ := H; generalize hji6 : (wrap64 ((wrap64 (2 * a0_1)) - 1)) = ji6 at H
 (try rw [hji6] at A4)
 (try rw [hji6] at A5)
 have hji6w : (IntKind.i64.wrap ((wrap64 (2 * a0_1)) - 1)) = ji6 := (i64_w _).trans hji6; replace H := ift H; obtain ⟨c7b0, c7b1, H⟩ := H; replace H := ift H; obtain ⟨c8b0, c8b1, H⟩ := H; generalize hy395 : ((List.replicate (ji6 : Int).toNat 0) : List Int) = y395 at H; have Ny395 := Aside0.mk hy395.symm; clear hy395; have H' := Aside0.mk H; clear H; go_enter Try.func48, Try.ntmps48; go_wp2_with (first | ((with_reducible refine gate_dst (N := 3) rfl ?_); refine bx (cs := #[.int .i64 a0_0, .int .i64 a0_1, .slice A0_2 l0_2.length c0_2]) (t := 33) ?_; intro gb388 hg w9 hbox hb; have BK388 := Aside0.mk (hbox); have GW388 := Aside0.mk ((by rw [hg]; exact bsz : w.heap.size ≤ gb388)); have GE388 := Aside0.mk ((by rw [hg]; exact bsz : w.heap.size ≤ gb388)); replace HB := bst hb; clear hb hbox hg; obtain ⟨hcz10_0, hcz10_1, hcz10_2, hfz10_0, hfz10_1, hfz10_2⟩ := b3 BK388) | ((with_reducible refine gate_callee (f := 82) rfl ?_); refine gl (some 16) Try.func82 #[.agg #[.int .i64 a0_0, .int .i64 a0_1, .slice A0_2 l0_2.length c0_2], .int .i64 a1] ?_; (with_reducible refine (codewrightref04_Digits.calls k a0_0 a0_1 _ _ l0_2 a1 t389 _ ?side1 ?side2 A4.out).mono ?_); (case side1 => exact cb HR0_2); (case side2 => exact HC0_2.out); rintro e w11 ⟨v390, rfl, ho0, hb⟩; refine ⟨_, rfl, ?_⟩; have HO391 := Aside0.mk (Kd.R_lower ho0 bsz); replace BK388 := Aside0.mk (blk_below (g := gb388) (o := .cells #[.int .i64 a0_0, .int .i64 a0_1, .slice A0_2 l0_2.length c0_2] 33 (0, 0)) (ba BK388) hb); replace HB := bst hb; obtain ⟨hcz12_0, hcz12_1, hcz12_2, hfz12_0, hfz12_1, hfz12_2⟩ := b3 BK388) | ((with_reducible refine gate_callee (f := 82) rfl ?_); refine gl (some 19) Try.func82 #[.agg #[.int .i64 a0_0, .int .i64 a0_1, .slice A0_2 l0_2.length c0_2], .int .i64 a2] ?_; (with_reducible refine (codewrightref04_Digits.calls k a0_0 a0_1 _ _ l0_2 a2 t392 _ ?side1 ?side2 A5.out).mono ?_); (case side1 => exact cb HR0_2); (case side2 => exact HC0_2.out); rintro e w13 ⟨v393, rfl, ho0, hb⟩; refine ⟨_, rfl, ?_⟩; have HO394 := Aside0.mk (Kd.R_lower (Kd.R_new' ho0 (Kd.R_lt (ra HO391))) bsz); replace HO391 := Aside0.mk (Kd.R_elder' (ra HO391) (Kd.R_base ho0) hb); replace BK388 := Aside0.mk (blk_below (g := gb388) (o := .cells #[.int .i64 a0_0, .int .i64 a0_1, .slice A0_2 l0_2.length c0_2] 33 (0, 0)) (ba BK388) hb); replace HB := bst hb; obtain ⟨hcz14_0, hcz14_1, hcz14_2, hfz14_0, hfz14_1, hfz14_2⟩ := b3 BK388) | ((with_reducible refine gate_dst (N := 24) rfl ?_); refine Kd.R_make (Kd.int .i64) _ 3 rfl (N := 24) rfl 31 _ _ rfl ji6 rfl rfl Try.underlying31 (.int .i64 0) 8 info3 rfl (by decide) (by omega) 0 (ok := fun _ => True) (okp := fun _ => True) rfl (fun _ hk => hk) trivial (oda) (Nat.le_trans (Nat.mul_le_mul_right _ (oda : ji6.toNat ≤ 35184372088832)) (by omega)) (Below.refl _ _) (Nat.le_refl _) ?_; intro v396 w15 ho16 hb hg_ hnew_; clear hg_ hnew_; (first | rw [← Ny395.out] at ho16 | (simp only [Int.reduceToNat] at ho16; rw [← Ny395.out] at ho16)); have HO397 := Aside0.mk (Kd.R_lower (Kd.R_new' (Kd.R_new' ho16 (Kd.R_lt (ra HO391))) (Kd.R_lt (ra HO394))) bsz); replace HO391 := Aside0.mk (Kd.R_elder' (ra HO391) (Kd.R_base ho16) hb); replace HO394 := Aside0.mk (Kd.R_elder' (ra HO394) (Kd.R_base ho16) hb); replace BK388 := Aside0.mk (blk_below (g := gb388) (o := .cells #[.int .i64 a0_0, .int .i64 a0_1, .slice A0_2 l0_2.length c0_2] 33 (0, 0)) (ba BK388) hb); replace HB := bst hb; clear hb ho16))
 go_loopg [10] k (fun kq v10 w' => ∃ (x9_1 : List Int) (x10_1 : Int), v10 = .int .i64 x10_1 ∧ Aside0 (codewrightref04_Mul.l0 kq t389 t392 x9_1 x10_1 a0_0 a0_1 l0_2 = some r) ∧ Aside0 (kq ≤ k) ∧ Aside0 (Kd.R (Kd.int .i64) 3 w' w.heap.size (fun k_ => some k_ ≠ (v393 : Value).ownBlock ∧ some k_ ≠ (v396 : Value).ownBlock) v390 t389) ∧ Aside0 (Kd.R (Kd.int .i64) 3 w' w.heap.size (fun k_ => some k_ ≠ (v390 : Value).ownBlock ∧ some k_ ≠ (v396 : Value).ownBlock) v393 t392) ∧ Aside0 (Kd.R (Kd.int .i64) 3 w' w.heap.size (fun k_ => some k_ ≠ (v390 : Value).ownBlock ∧ some k_ ≠ (v393 : Value).ownBlock) v396 x9_1) ∧ Aside0 (w'.heap[gb388]? = some (.cells #[.int .i64 a0_0, .int .i64 a0_1, (.slice A0_2 l0_2.length c0_2)] 33 (0, 0))) ∧ Aside0 (Below w.heap.size w w'))
 case atStart => exact ⟨(y395), (0), rs, H', ⟨Nat.le_refl _⟩, ⟨Kd.R_mono (ra HO391) (fun _ hk => ⟨hk.1.2, hk.2⟩)⟩, ⟨Kd.R_mono (ra HO394) (fun _ hk => ⟨hk.1.2, hk.2⟩)⟩, ⟨Kd.R_mono (ra HO397) (fun _ hk => ⟨hk.1.2, hk.2⟩)⟩, ⟨ba BK388⟩, ⟨bel⟩⟩
 clear H'; obtain ⟨x9_1, x10_1, rfl, HA, HK1, HO_7, HO_8, HO_9, BK388, HB⟩ := hrel; rcases gk with _ | k1
 ·exact absurd HA.out (by simp [codewrightref04_Mul.l0])
 have H := HA.out; clear HA; simp only [codewrightref04_Mul.l0] at H
 by_cases c17 : x10_1 < a0_1
 ·rw [if_pos c17] at H; have c17b0 : decide (x10_1 < a0_1) = true := decide_eq_true c17; clear c17; have H' := Aside0.mk H; clear H; obtain ⟨hcz18_0, hcz18_1, hcz18_2, hfz18_0, hfz18_1, hfz18_2⟩ := b3 BK388; go_wp2; go_loopg [11] k1 (fun kq v11 w' => ∃ (x9_2 : List Int) (x11_2 : Int), v11 = .int .i64 x11_2 ∧ Aside0 (codewrightref04_Mul.l1 kq t389 t392 x9_2 x10_1 x11_2 a0_0 a0_1 l0_2 = some r) ∧ Aside0 (kq ≤ k1) ∧ Aside0 (Kd.R (Kd.int .i64) 3 w' w.heap.size (fun k_ => some k_ ≠ (v393 : Value).ownBlock ∧ some k_ ≠ (v396 : Value).ownBlock) v390 t389) ∧ Aside0 (Kd.R (Kd.int .i64) 3 w' w.heap.size (fun k_ => some k_ ≠ (v390 : Value).ownBlock ∧ some k_ ≠ (v396 : Value).ownBlock) v393 t392) ∧ Aside0 (Kd.R (Kd.int .i64) 3 w' w.heap.size (fun k_ => some k_ ≠ (v390 : Value).ownBlock ∧ some k_ ≠ (v393 : Value).ownBlock) v396 x9_2) ∧ Aside0 (w'.heap[gb388]? = some (.cells #[.int .i64 a0_0, .int .i64 a0_1, (.slice A0_2 l0_2.length c0_2)] 33 (0, 0))) ∧ Aside0 (Below w.heap.size w w'))
  case atStart => exact ⟨(x9_1), (0), rs, H', ⟨Nat.le_refl _⟩, ⟨ra HO_7⟩, ⟨ra HO_8⟩, ⟨ra HO_9⟩, ⟨ba BK388⟩, ⟨bel⟩⟩
  clear H'; obtain ⟨x9_2, x11_2, rfl, HA, HK2, HO_7, HO_8, HO_9, BK388, HB⟩ := hrel; rcases gk with _ | k2
  ·exact absurd HA.out (by simp [codewrightref04_Mul.l1])
  have H := HA.out; clear HA; simp only [codewrightref04_Mul.l1] at H
  by_cases c19 : x11_2 < a0_1
  ·rw [if_pos c19] at H; have c19b0 : decide (x11_2 < a0_1) = true := decide_eq_true c19; clear c19; generalize hji20 : (wrap64 (x10_1 + x11_2)) = ji20 at H; have hji20w : (IntKind.i64.wrap (x10_1 + x11_2)) = ji20 := (i64_w _).trans hji20; replace H := ifd H; obtain ⟨c21b0, H⟩ := H; replace H := ifd H; obtain ⟨c22b0, H⟩ := H; replace H := ifd H; obtain ⟨c23b0, H⟩ := H; replace H := ifd H; obtain ⟨c24b0, H⟩ := H; replace H := ifd H; obtain ⟨c25b0, H⟩ := H; replace H := ifd H; obtain ⟨c26b0, H⟩ := H; replace H := ifn H; obtain ⟨c27, H⟩ := H; have c27b0 : (a0_0 == 0) = false := beq_eq_false_iff_ne.mpr c27; have c27b1 : (a0_0 != 0) = true := bne_iff_ne.mpr c27; generalize hy401 : ((x9_2.set ((ji20) : Int).toNat (Int.tmod (wrap64 ((rd x9_2 (ji20)) + (wrap64 ((rd t389 x10_1) * (rd t392 x11_2))))) a0_0)) : List Int) = y401 at H; have Ny401 := Aside0.mk hy401.symm; clear hy401; have H' := Aside0.mk H; clear H; obtain ⟨hcz29_0, hcz29_1, hcz29_2, hfz29_0, hfz29_1, hfz29_2⟩ := b3 BK388; try go_wp2
   replace HO_7 := Aside0.mk (Kd.R_drew HO_7.out); replace HO_8 := Aside0.mk (Kd.R_drew HO_8.out); replace HO_9 := Aside0.mk (Kd.R_drew HO_9.out); replace BK388 := Aside0.mk (blk_drew BK388.out); replace HB := Aside0.mk (below_drew1 HB.out); obtain ⟨Ao31, co31, eo31⟩ := Kd.R_slice HO_9.out; (first | subst eo31 | (injection eo31 with f1_ f2_ f3_; have f4_ := f1_.symm; have f5_ := f3_.symm; clear f1_ f2_ f3_; subst f4_; subst f5_))
   have p398 : 0 ≤ ((ji20) : Int) := oda; have q398 : (ji20) < (x9_2.length : Int) := oda; obtain ⟨ad398, e398, hx398_0⟩ := Kd.at_int (Kd.R_reads' HO_9.out).2.2 (ji20) p398 q398; cases e398; replace p398 := eq_true p398; replace q398 := eq_true q398; obtain ⟨Ao32, co32, eo32⟩ := Kd.R_slice HO_7.out; (first | subst eo32 | (injection eo32 with f1_ f2_ f3_; have f4_ := f1_.symm; have f5_ := f3_.symm; clear f1_ f2_ f3_; subst f4_; subst f5_))
   have p399 : 0 ≤ (x10_1 : Int) := oda; have q399 : x10_1 < (t389.length : Int) := oda; obtain ⟨ad399, e399, hx399_0⟩ := Kd.at_int (Kd.R_reads' HO_7.out).2.2 x10_1 p399 q399; cases e399; replace p399 := eq_true p399; replace q399 := eq_true q399; obtain ⟨Ao33, co33, eo33⟩ := Kd.R_slice HO_8.out; (first | subst eo33 | (injection eo33 with f1_ f2_ f3_; have f4_ := f1_.symm; have f5_ := f3_.symm; clear f1_ f2_ f3_; subst f4_; subst f5_))
   have p400 : 0 ≤ (x11_2 : Int) := oda; have q400 : x11_2 < (t392.length : Int) := oda; obtain ⟨ad400, e400, hx400_0⟩ := Kd.at_int (Kd.R_reads' HO_8.out).2.2 x11_2 p400 q400; cases e400; replace p400 := eq_true p400; replace q400 := eq_true q400; have p28 : 0 ≤ ((ji20) : Int) := oda; have q28 : ((ji20) : Int) < ((x9_2.length : Int) : Int) := oda; obtain ⟨go28, co28, eo28, gb28, gl28, cl28, HG28⟩ := Kd.R_form HO_9.out (by omega); (first | cases eo28 | (injection eo28 with ea_ en_ ec_; (first | subst ea_ | (injection ea_ with ea_; subst ea_)); subst ec_; clear en_))
   have GB28 := Aside0.mk gb28; have GG28 := Aside0.mk HG28; clear gb28 gl28 HG28; (first | simp only [add_plain] at hx398_0 | skip)
   obtain ⟨hx28_0, hf28_0⟩ := Kd.R_celln 0 HO_9.out ((ji20) : Int) p28 q28; replace p28 := eq_true p28; replace q28 := eq_true q28; have HP34 := Kd.R_putn HO_9.out ((ji20) : Int) (Int.tmod (wrap64 ((rd x9_2 (ji20)) + (wrap64 ((rd t389 x10_1) * (rd t392 x11_2))))) a0_0); rw [← Ny401.out] at HP34; have HQ34 := Aside0.mk HP34; clear HP34; refine st_ (S := fun w' => w'.cell? ⟨gb388, 0, none⟩ = some (.int .i64 a0_0) ∧ w'.cell? ⟨gb388, 1, none⟩ = some (.int .i64 a0_1) ∧ w'.cell? ⟨gb388, 2, none⟩ = some (.slice A0_2 l0_2.length c0_2) ∧ w'.cell? ⟨go28, ((ji20)).toNat, none⟩ = some (.int .i64 (rd x9_2 (ji20))) ∧ w'.cell? (ad399.add (x10_1).toNat) = some (.int .i64 (rd t389 x10_1)) ∧ w'.cell? (ad400.add (x11_2).toNat) = some (.int .i64 (rd t392 x11_2))) (ds := [24]) 25 codewrightref04_Mul.tab10 codewrightref04_Mul.bits10 ⟨bc BK388 0, bc BK388 1, bc BK388 2, hx398_0, hx399_0, hx400_0⟩ fun hHeld HT_ HW_ => ?_
   generalize wr.drew = w30 at HO_7 HO_8 HO_9 BK388 HB GG28 HQ34 hf28_0 hx28_0 hx398_0 hx399_0 hx400_0 hHeld ⊢; refine pu 0 37 (bm 25 1) ?_; refine pu 1 38 (bm 25 3) ?_; refine pu 2 39 (bm 25 7) ?_; refine pu 3 40 (bm 25 15) ?_; refine pu 4 41 (bm 25 31) ?_; refine pu 5 42 (bm 25 63) ?_; refine pu 6 43 (bm 25 127) ?_; refine pu 7 44 (bm 25 255) ?_; refine pu 8 45 (bm 25 511) ?_; refine pu 10 47 (bm 25 1535) ?_; refine pu 11 48 (bm 25 3583) ?_; refine pu 12 49 (bm 25 7679) ?_; refine pu 14 51 (bm 25 24063) ?_; refine pu 15 52 (bm 25 56831) ?_; refine pu 16 53 (bm 25 122367) ?_; refine pu 20 57 (bm 25 1170943) ?_; refine take_ (i := 9) (N := some 46) (v := ?_) (a' := ?_) (bm 25 1171455) rfl rfl (take_ofW HT_.out HW_.out (by kernel_rfl)) (fun _ _ _ h => h) (Or.inl ⟨by rfl, ?_⟩) hHeld ?_ ?_; rotate_left
   ·rintro w' ⟨s0, s1, s2, s3, s4, s5⟩; go_simp; with_reducible rfl
   rotate_left
   ·simp only [Act.put, List.setIfInBounds_toArray, List.set_cons_zero, List.set_cons_succ, i64_w, i32_w]; rfl
   refine take_ (i := 13) (N := some 50) (v := ?_) (a' := ?_) (bm 25 1179647) rfl rfl (take_ofW HT_.out HW_.out (by kernel_rfl)) (fun _ _ _ h => h) (Or.inl ⟨by rfl, ?_⟩) hHeld ?_ ?_; rotate_left
   ·rintro w' ⟨s0, s1, s2, s3, s4, s5⟩; go_simp; with_reducible rfl
   rotate_left
   ·simp only [Act.put, List.setIfInBounds_toArray, List.set_cons_zero, List.set_cons_succ, i64_w, i32_w]; rfl
   refine take_ (i := 17) (N := some 54) (v := ?_) (a' := ?_) (bm 25 1310719) rfl rfl (take_ofW HT_.out HW_.out (by kernel_rfl)) (fun _ _ _ h => h) (Or.inl ⟨by rfl, ?_⟩) hHeld ?_ ?_; rotate_left
   ·rintro w' ⟨s0, s1, s2, s3, s4, s5⟩; go_simp; with_reducible rfl
   rotate_left
   ·simp only [Act.put, List.setIfInBounds_toArray, List.set_cons_zero, List.set_cons_succ, i64_w, i32_w]; rfl
   refine pu 18 55 (bm 25 1572863) ?_; refine pu 19 56 (bm 25 2097151) ?_; refine take_ (i := 21) (N := some 58) (v := ?_) (a' := ?_) (bm 25 4194303) rfl rfl (take_ofW HT_.out HW_.out (by kernel_rfl)) (fun _ _ _ h => h) (Or.inl ⟨by rfl, ?_⟩) hHeld ?_ ?_; rotate_left
   ·rintro w' ⟨s0, s1, s2, s3, s4, s5⟩; go_simp; with_reducible rfl
   rotate_left
   ·simp only [Act.put, List.setIfInBounds_toArray, List.set_cons_zero, List.set_cons_succ, i64_w, i32_w]; rfl
   refine pu 22 59 (bm 25 8388607) ?_; refine pu 23 60 (bm 25 16777215) ?_; refine last_ (i := 24) (N := none) (bm 25 33554431) rfl rfl (one_of HT_.out (by kernel_rfl)) (by decide) fun K hK => ?_
   refine skip_ (w1 := ?_) (by rfl) rfl ?_ ?_; rotate_left
   ·go_simp; rfl
   refine hK.out _ _ ?_; clear hK K; refine dn ?_; try go_wp2
   go_roundg k2
   case measure => have := HK1.out; have := HK2.out; omega
   case rel => exact ⟨(y401), (wrap64 (x11_2 + 1)), rs, H', ⟨by have := HK1.out; have := HK2.out; omega⟩, ⟨by (with_reducible repeat (first | apply Kd.R_alloc | apply Kd.R_drewN | apply Kd.R_drew)); exact Kd.R_mono (Kd.R_far (p := ⟨go28, ((ji20) : Int).toNat, none⟩) (Kd.R_mono HO_7.out (fun k_ hk => (⟨hk, fun e_ => hk.2 (by rw [e_]; rfl)⟩ : _ ∧ k_ ≠ go28))) (fun _ hk => hk.2) (.int .i64 (Int.tmod (wrap64 ((rd x9_2 (ji20)) + (wrap64 ((rd t389 x10_1) * (rd t392 x11_2))))) a0_0))) (fun _ hk => ⟨hk.1.1, hk.1.2⟩)⟩, ⟨by (with_reducible repeat (first | apply Kd.R_alloc | apply Kd.R_drewN | apply Kd.R_drew)); exact Kd.R_mono (Kd.R_far (p := ⟨go28, ((ji20) : Int).toNat, none⟩) (Kd.R_mono HO_8.out (fun k_ hk => (⟨hk, fun e_ => hk.2 (by rw [e_]; rfl)⟩ : _ ∧ k_ ≠ go28))) (fun _ hk => hk.2) (.int .i64 (Int.tmod (wrap64 ((rd x9_2 (ji20)) + (wrap64 ((rd t389 x10_1) * (rd t392 x11_2))))) a0_0))) (fun _ hk => ⟨hk.1.1, hk.1.2⟩)⟩, ⟨ra HQ34⟩, ⟨by (with_reducible repeat (first | refine blk_drewN ?_ _ | refine blk_drew ?_ | refine blk_alloc ?_ _)); refine blk_far ?_ (by have h_ := Kd.R_ne HO_9.out BK388.out (by decide); intro e_; exact h_ (by rw [e_]; rfl)) _; exact ba BK388⟩, ⟨bel⟩⟩
  rw [if_neg c19] at H; have c19b0 : decide (x11_2 < a0_1) = false := decide_eq_false c19; clear c19; have H' := Aside0.mk H; clear H; obtain ⟨hcz35_0, hcz35_1, hcz35_2, hfz35_0, hfz35_1, hfz35_2⟩ := b3 BK388; go_wp2; go_roundg k2
  case measure => have := HK1.out; have := HK2.out; omega
  case rel => exact ⟨(x9_2), (wrap64 (x10_1 + 1)), rs, H', ⟨by have := HK1.out; have := HK2.out; omega⟩, ⟨ra HO_7⟩, ⟨ra HO_8⟩, ⟨ra HO_9⟩, ⟨ba BK388⟩, ⟨bel⟩⟩
 rw [if_neg c17] at H; have c17b0 : decide (x10_1 < a0_1) = false := decide_eq_false c17; clear c17; have H' := Aside0.mk H; clear H; obtain ⟨hcz36_0, hcz36_1, hcz36_2, hfz36_0, hfz36_1, hfz36_2⟩ := b3 BK388; go_wp2; go_loopg [12] k1 (fun kq v12 w' => ∃ (x9_2 : List Int) (x12_2 : Int), v12 = .int .i64 x12_2 ∧ Aside0 (codewrightref04_Mul.l2 kq x9_2 x12_2 a0_0 a0_1 l0_2 = some r) ∧ Aside0 (kq ≤ k1) ∧ Aside0 (Kd.R (Kd.int .i64) 3 w' w.heap.size (fun _ => True) v396 x9_2) ∧ Aside0 (w'.heap[gb388]? = some (.cells #[.int .i64 a0_0, .int .i64 a0_1, (.slice A0_2 l0_2.length c0_2)] 33 (0, 0))) ∧ Aside0 (Below w.heap.size w w'))
 case atStart => exact ⟨(x9_1), (wrap64 ((wrap64 (2 * a0_1)) - 2)), rs, H', ⟨Nat.le_refl _⟩, ⟨Kd.R_mono (ra HO_9) (fun _ hk => trivial)⟩, ⟨ba BK388⟩, ⟨bel⟩⟩
 clear H'; obtain ⟨x9_2, x12_2, rfl, HA, HK2, HO_9, BK388, HB⟩ := hrel; rcases gk with _ | k2
 ·exact absurd HA.out (by simp [codewrightref04_Mul.l2])
 have H := HA.out; clear HA; simp only [codewrightref04_Mul.l2] at H
 by_cases c37 : x12_2 ≥ a0_1
 ·rw [if_pos c37] at H; have c37b0 : decide (a0_1 ≤ x12_2) = true := decide_eq_true c37; clear c37; have H' := Aside0.mk H; clear H; obtain ⟨hcz38_0, hcz38_1, hcz38_2, hfz38_0, hfz38_1, hfz38_2⟩ := b3 BK388; go_wp2; go_loopg [13] k2 (fun kq v13 w' => ∃ (x9_3 : List Int) (x13_3 : Int), v13 = .int .i64 x13_3 ∧ Aside0 (codewrightref04_Mul.l3 kq x9_3 x12_2 x13_3 a0_0 a0_1 l0_2 = some r) ∧ Aside0 (kq ≤ k2) ∧ Aside0 (Kd.R (Kd.int .i64) 3 w' w.heap.size (fun _ => True) v396 x9_3) ∧ Aside0 (w'.heap[gb388]? = some (.cells #[.int .i64 a0_0, .int .i64 a0_1, (.slice A0_2 l0_2.length c0_2)] 33 (0, 0))) ∧ Aside0 (Below w.heap.size w w'))
  case atStart => exact ⟨(x9_2), (0), rs, H', ⟨Nat.le_refl _⟩, ⟨ra HO_9⟩, ⟨ba BK388⟩, ⟨bel⟩⟩
  clear H'; obtain ⟨x9_3, x13_3, rfl, HA, HK3, HO_9, BK388, HB⟩ := hrel; rcases gk with _ | k3
  ·exact absurd HA.out (by simp [codewrightref04_Mul.l3])
  have H := HA.out; clear HA; simp only [codewrightref04_Mul.l3] at H
  by_cases c39 : x13_3 < a0_1
  ·rw [if_pos c39] at H; have c39b0 : decide (x13_3 < a0_1) = true := decide_eq_true c39; clear c39; generalize hji40 : (wrap64 ((wrap64 (x12_2 - a0_1)) + x13_3)) = ji40 at H; have hji40w : (IntKind.i64.wrap ((wrap64 (x12_2 - a0_1)) + x13_3)) = ji40 := (i64_w _).trans hji40; replace H := ifd H; obtain ⟨c41b0, H⟩ := H; replace H := ifd H; obtain ⟨c42b0, H⟩ := H; replace H := ifd H; obtain ⟨c43b0, H⟩ := H; replace H := ifd H; obtain ⟨c44b0, H⟩ := H; replace H := ifd H; obtain ⟨c45b0, H⟩ := H; replace H := ifd H; obtain ⟨c46b0, H⟩ := H; replace H := ifn H; obtain ⟨c47, H⟩ := H; have c47b0 : (a0_0 == 0) = false := beq_eq_false_iff_ne.mpr c47; have c47b1 : (a0_0 != 0) = true := bne_iff_ne.mpr c47; generalize hy410 : ((x9_3.set ((ji40) : Int).toNat (Int.tmod (wrap64 ((rd x9_3 (ji40)) + (wrap64 ((wrap64 (a0_0 - (rd x9_3 x12_2))) * (rd l0_2 x13_3))))) a0_0)) : List Int) = y410 at H; have Ny410 := Aside0.mk hy410.symm; clear hy410; have H' := Aside0.mk H; clear H; obtain ⟨hcz49_0, hcz49_1, hcz49_2, hfz49_0, hfz49_1, hfz49_2⟩ := b3 BK388; try go_wp2
   replace HO_9 := Aside0.mk (Kd.R_drew HO_9.out); replace BK388 := Aside0.mk (blk_drew BK388.out); replace HB := Aside0.mk (below_drew1 HB.out); obtain ⟨Ao51, co51, eo51⟩ := Kd.R_slice HO_9.out; (first | subst eo51 | (injection eo51 with f1_ f2_ f3_; have f4_ := f1_.symm; have f5_ := f3_.symm; clear f1_ f2_ f3_; subst f4_; subst f5_))
   have p407 : 0 ≤ ((ji40) : Int) := oda; have q407 : (ji40) < (x9_3.length : Int) := oda; obtain ⟨ad407, e407, hx407_0⟩ := Kd.at_int (Kd.R_reads' HO_9.out).2.2 (ji40) p407 q407; cases e407; replace p407 := eq_true p407; replace q407 := eq_true q407; have p408 : 0 ≤ (x12_2 : Int) := oda; have q408 : x12_2 < (x9_3.length : Int) := oda; obtain ⟨ad408, e408, hx408_0⟩ := Kd.at_int (Kd.R_reads' HO_9.out).2.2 x12_2 p408 q408; obtain rfl : ad407 = ad408 := (by injection e408); replace p408 := eq_true p408; replace q408 := eq_true q408; have p409 : 0 ≤ (x13_3 : Int) := oda; have q409 : x13_3 < (l0_2.length : Int) := oda; obtain ⟨ad409, e409, hx409_0⟩ := Kd.at_int HR0_2.out x13_3 p409 q409; have hw409_0 := hx409_0; cases e409
   (try replace hx409_0 := hbc hx409_0)
   replace p409 := eq_true p409; replace q409 := eq_true q409; have p48 : 0 ≤ ((ji40) : Int) := oda; have q48 : ((ji40) : Int) < ((x9_3.length : Int) : Int) := oda; obtain ⟨go48, co48, eo48, gb48, gl48, cl48, HG48⟩ := Kd.R_form HO_9.out (by omega); (first | cases eo48 | (injection eo48 with ea_ en_ ec_; (first | subst ea_ | (injection ea_ with ea_; subst ea_)); subst ec_; clear en_))
   have GB48 := Aside0.mk gb48; have GG48 := Aside0.mk HG48; clear gb48 gl48 HG48; (first | simp only [add_plain] at hx407_0 | skip)
   (first | simp only [add_plain] at hx408_0 | skip)
   obtain ⟨hx48_0, hf48_0⟩ := Kd.R_celln 0 HO_9.out ((ji40) : Int) p48 q48; replace p48 := eq_true p48; replace q48 := eq_true q48; have HP52 := Kd.R_putn HO_9.out ((ji40) : Int) (Int.tmod (wrap64 ((rd x9_3 (ji40)) + (wrap64 ((wrap64 (a0_0 - (rd x9_3 x12_2))) * (rd l0_2 x13_3))))) a0_0); rw [← Ny410.out] at HP52; have HQ52 := Aside0.mk HP52; clear HP52; refine st_ (S := fun w' => w'.cell? ⟨gb388, 0, none⟩ = some (.int .i64 a0_0) ∧ w'.cell? ⟨gb388, 1, none⟩ = some (.int .i64 a0_1) ∧ w'.cell? ⟨gb388, 2, none⟩ = some (.slice (some ad409) l0_2.length c0_2) ∧ w'.cell? ⟨go48, ((ji40)).toNat, none⟩ = some (.int .i64 (rd x9_3 (ji40))) ∧ w'.cell? ⟨go48, (x12_2).toNat, none⟩ = some (.int .i64 (rd x9_3 x12_2)) ∧ w'.cell? (ad409.add (x13_3).toNat) = some (.int .i64 (rd l0_2 x13_3))) (ds := [34]) 35 codewrightref04_Mul.tab17 codewrightref04_Mul.bits17 ⟨bc BK388 0, bc BK388 1, bc BK388 2, hx407_0, hx408_0, (hbc hw409_0)⟩ fun hHeld HT_ HW_ => ?_
   generalize wr.drew = w50 at HO_9 BK388 HB GG48 HQ52 hf48_0 hx407_0 hx408_0 hx409_0 hx48_0 hHeld ⊢; refine pu 0 77 (bm 35 1) ?_; refine pu 1 78 (bm 35 3) ?_; refine pu 2 79 (bm 35 7) ?_; refine pu 5 82 (bm 35 39) ?_; refine pu 7 84 (bm 35 167) ?_; refine pu 8 85 (bm 35 423) ?_; refine pu 9 86 (bm 35 935) ?_; refine pu 12 89 (bm 35 5031) ?_; refine pu 16 93 (bm 35 70567) ?_; refine pu 18 95 (bm 35 332711) ?_; refine pu 19 96 (bm 35 856999) ?_; refine pu 20 97 (bm 35 1905575) ?_; refine pu 23 100 (bm 35 10294183) ?_; refine pu 25 102 (bm 35 43848615) ?_; refine pu 30 107 (bm 35 1117590439) ?_; refine take_ (i := 3) (N := some 80) (v := ?_) (a' := ?_) (bm 35 1117590447) rfl rfl (take_ofW HT_.out HW_.out (by kernel_rfl)) (fun _ _ _ h => h) (Or.inl ⟨by rfl, ?_⟩) hHeld ?_ ?_; rotate_left
   ·rintro w' ⟨s0, s1, s2, s3, s4, s5⟩; go_simp; with_reducible rfl
   rotate_left
   ·simp only [Act.put, List.setIfInBounds_toArray, List.set_cons_zero, List.set_cons_succ, i64_w, i32_w]; rfl
   refine pu 4 81 (bm 35 1117590463) ?_; refine pu 6 83 (bm 35 1117590527) ?_; refine take_ (i := 10) (N := some 87) (v := ?_) (a' := ?_) (bm 35 1117591551) rfl rfl (take_ofW HT_.out HW_.out (by kernel_rfl)) (fun _ _ _ h => h) (Or.inl ⟨by rfl, ?_⟩) hHeld ?_ ?_; rotate_left
   ·rintro w' ⟨s0, s1, s2, s3, s4, s5⟩; go_simp; with_reducible rfl
   rotate_left
   ·simp only [Act.put, List.setIfInBounds_toArray, List.set_cons_zero, List.set_cons_succ, i64_w, i32_w]; rfl
   refine pu 11 88 (bm 35 1117593599) ?_; refine pu 13 90 (bm 35 1117601791) ?_; refine pu 14 91 (bm 35 1117618175) ?_; refine take_ (i := 15) (N := some 92) (v := ?_) (a' := ?_) (bm 35 1117650943) rfl rfl (take_ofW HT_.out HW_.out (by kernel_rfl)) (fun _ _ _ h => h) (Or.inl ⟨by rfl, ?_⟩) hHeld ?_ ?_; rotate_left
   ·rintro w' ⟨s0, s1, s2, s3, s4, s5⟩; go_simp; with_reducible rfl
   rotate_left
   ·simp only [Act.put, List.setIfInBounds_toArray, List.set_cons_zero, List.set_cons_succ, i64_w, i32_w]; rfl
   refine take_ (i := 17) (N := some 94) (v := ?_) (a' := ?_) (bm 35 1117782015) rfl rfl (take_ofW HT_.out HW_.out (by kernel_rfl)) (fun _ _ _ h => h) (Or.inl ⟨by rfl, ?_⟩) hHeld ?_ ?_; rotate_left
   ·rintro w' ⟨s0, s1, s2, s3, s4, s5⟩; go_simp; with_reducible rfl
   rotate_left
   ·simp only [Act.put, List.setIfInBounds_toArray, List.set_cons_zero, List.set_cons_succ, i64_w, i32_w]; rfl
   refine take_ (i := 21) (N := some 98) (v := ?_) (a' := ?_) (bm 35 1119879167) rfl rfl (take_ofW HT_.out HW_.out (by kernel_rfl)) (fun _ _ _ h => h) (Or.inl ⟨by rfl, ?_⟩) hHeld ?_ ?_; rotate_left
   ·rintro w' ⟨s0, s1, s2, s3, s4, s5⟩; go_simp; with_reducible rfl
   rotate_left
   ·simp only [Act.put, List.setIfInBounds_toArray, List.set_cons_zero, List.set_cons_succ, i64_w, i32_w]; rfl
   refine pu 22 99 (bm 35 1124073471) ?_; refine take_ (i := 24) (N := some 101) (v := ?_) (a' := ?_) (bm 35 1140850687) rfl rfl (take_ofW HT_.out HW_.out (by kernel_rfl)) (fun _ _ _ h => h) (Or.inl ⟨by rfl, ?_⟩) hHeld ?_ ?_; rotate_left
   ·rintro w' ⟨s0, s1, s2, s3, s4, s5⟩; go_simp; with_reducible rfl
   rotate_left
   ·simp only [Act.put, List.setIfInBounds_toArray, List.set_cons_zero, List.set_cons_succ, i64_w, i32_w]; rfl
   refine pu 26 103 (bm 35 1207959551) ?_; refine take_ (i := 27) (N := some 104) (v := ?_) (a' := ?_) (bm 35 1342177279) rfl rfl (take_ofW HT_.out HW_.out (by kernel_rfl)) (fun _ _ _ h => h) (Or.inl ⟨by rfl, ?_⟩) hHeld ?_ ?_; rotate_left
   ·rintro w' ⟨s0, s1, s2, s3, s4, s5⟩; go_simp; with_reducible rfl
   rotate_left
   ·simp only [Act.put, List.setIfInBounds_toArray, List.set_cons_zero, List.set_cons_succ, i64_w, i32_w]; rfl
   refine pu 28 105 (bm 35 1610612735) ?_; refine pu 29 106 (bm 35 2147483647) ?_; refine take_ (i := 31) (N := some 108) (v := ?_) (a' := ?_) (bm 35 4294967295) rfl rfl (take_ofW HT_.out HW_.out (by kernel_rfl)) (fun _ _ _ h => h) (Or.inl ⟨by rfl, ?_⟩) hHeld ?_ ?_; rotate_left
   ·rintro w' ⟨s0, s1, s2, s3, s4, s5⟩; go_simp; with_reducible rfl
   rotate_left
   ·simp only [Act.put, List.setIfInBounds_toArray, List.set_cons_zero, List.set_cons_succ, i64_w, i32_w]; rfl
   refine pu 32 109 (bm 35 8589934591) ?_; refine pu 33 110 (bm 35 17179869183) ?_; refine last_ (i := 34) (N := none) (bm 35 34359738367) rfl rfl (one_of HT_.out (by kernel_rfl)) (by decide) fun K hK => ?_
   refine skip_ (w1 := ?_) (by rfl) rfl ?_ ?_; rotate_left
   ·go_simp; rfl
   refine hK.out _ _ ?_; clear hK K; refine dn ?_; try go_wp2
   go_roundg k3
   case measure => have := HK1.out; have := HK2.out; have := HK3.out; omega
   case rel => exact ⟨(y410), (wrap64 (x13_3 + 1)), rs, H', ⟨by have := HK1.out; have := HK2.out; have := HK3.out; omega⟩, ⟨ra HQ52⟩, ⟨by (with_reducible repeat (first | refine blk_drewN ?_ _ | refine blk_drew ?_ | refine blk_alloc ?_ _)); refine blk_far ?_ (by have h_ := Kd.R_ne HO_9.out BK388.out (by decide); intro e_; exact h_ (by rw [e_]; rfl)) _; exact ba BK388⟩, ⟨bel⟩⟩
  rw [if_neg c39] at H; have c39b0 : decide (x13_3 < a0_1) = false := decide_eq_false c39; clear c39; have H' := Aside0.mk H; clear H; obtain ⟨hcz53_0, hcz53_1, hcz53_2, hfz53_0, hfz53_1, hfz53_2⟩ := b3 BK388; go_wp2; go_roundg k3
  case measure => have := HK1.out; have := HK2.out; have := HK3.out; omega
  case rel => exact ⟨(x9_3), (wrap64 (x12_2 - 1)), rs, H', ⟨by have := HK1.out; have := HK2.out; have := HK3.out; omega⟩, ⟨ra HO_9⟩, ⟨ba BK388⟩, ⟨bel⟩⟩
 rw [if_neg c37] at H; have c37b0 : decide (a0_1 ≤ x12_2) = false := decide_eq_false c37; clear c37; replace H := ift H; obtain ⟨c54b0, c54b1, H⟩ := H; replace H := ift H; obtain ⟨c55b0, c55b1, H⟩ := H; generalize hy402 : ((x9_2.take (a0_1 : Int).toNat) : List Int) = y402 at H; have Ny402 := Aside0.mk hy402.symm; clear hy402; replace H := bz H; obtain ⟨t406, A56, H⟩ := H; obtain rfl := Option.some.inj H; obtain ⟨hcz57_0, hcz57_1, hcz57_2, hfz57_0, hfz57_1, hfz57_2⟩ := b3 BK388; try go_wp2
 replace HO_9 := Aside0.mk (Kd.R_drew HO_9.out); replace BK388 := Aside0.mk (blk_drew BK388.out); replace HB := Aside0.mk (below_drew1 HB.out); obtain ⟨Ao60, co60, eo60⟩ := Kd.R_slice HO_9.out; (first | subst eo60 | (injection eo60 with f1_ f2_ f3_; have f4_ := f1_.symm; have f5_ := f3_.symm; clear f1_ f2_ f3_; subst f4_; subst f5_))
 have q59 : (a0_1 : Int) ≤ ((x9_2.length : Int) : Int) := oda; obtain ⟨i059, hi059, _, hsz59, _⟩ := info_parts info3; have hroom59 : x9_2.length ≤ co60 := (Kd.R_reads' HO_9.out).2.1; have hC59 : Kd.C (Kd.int .i64) _ Ao60 x9_2.length x9_2 := (Kd.R_reads' HO_9.out).2.2; have hcut59 := cut_to (P := Try.prog) 31 3 .i64 Try.underlying31 hi059 Ao60 x9_2.length co60 a0_1 (oda) q59 hroom59; have hr59 := Kd.C_take (m := (a0_1 : Int).toNat) hC59 (by omega); have hy59 : y402.length = (a0_1 : Int).toNat := (by rw [Ny402.out, List.length_take]; omega)
 rw [← Ny402.out] at hr59; rw [← hy59] at hcut59; have HR405 := Aside0.mk hr59; have HC405 := Aside0.mk (show y402.length ≤ co60 from by omega); clear hr59 hC59 hroom59 hi059 hsz59; have KY59 := Aside0.mk hy59; clear hy59; have KL59 := Aside0.mk (show (a0_1 : Int).toNat ≤ x9_2.length from by omega); replace q59 := eq_true q59; refine start_ (n := 7) (S := fun w' => w'.cell? ⟨gb388, 0, none⟩ = some (.int .i64 a0_0) ∧ w'.cell? ⟨gb388, 1, none⟩ = some (.int .i64 a0_1) ∧ w'.cell? ⟨gb388, 2, none⟩ = some (.slice A0_2 l0_2.length c0_2)) (ds := []) (bm 7 0) (by kernel_rfl) rfl rfl ⟨bc BK388 0, bc BK388 1, bc BK388 2⟩ (fun hHeld => ?_); generalize wr.drew = w58 at HO_9 BK388 HB HR405 hHeld ⊢; refine pure_ (i := 1) (N := some 112) (v := ?_) (a' := ?_) (bm 7 2) rfl rfl (by kernel_rfl) (fun _ _ _ h => h) (Or.inl ⟨by rfl, ?_⟩) ?_ ?_; rotate_left
 ·intro w'; go_simp; with_reducible rfl
 rotate_left
 ·simp only [Act.put, List.setIfInBounds_toArray, List.set_cons_zero, List.set_cons_succ, i64_w, i32_w]; rfl
 refine pure_ (i := 2) (N := some 113) (v := ?_) (a' := ?_) (bm 7 6) rfl rfl (by kernel_rfl) (fun _ _ _ h => h) (Or.inl ⟨by rfl, ?_⟩) ?_ ?_; rotate_left
 ·intro w'; go_simp; with_reducible rfl
 rotate_left
 ·simp only [Act.put, List.setIfInBounds_toArray, List.set_cons_zero, List.set_cons_succ, i64_w, i32_w]; rfl
 refine take_ (i := 0) (N := some 111) (v := ?_) (a' := ?_) (bm 7 7) rfl rfl (by kernel_rfl) (fun _ _ _ h => h) (Or.inl ⟨by rfl, ?_⟩) hHeld ?_ ?_; rotate_left
 ·rintro w' ⟨s0, s1, s2⟩; go_simp; with_reducible rfl
 rotate_left
 ·simp only [Act.put, List.setIfInBounds_toArray, List.set_cons_zero, List.set_cons_succ, i64_w, i32_w]; rfl
 refine take_ (i := 3) (N := some 114) (v := ?_) (a' := ?_) (bm 7 15) rfl rfl (by kernel_rfl) (fun _ _ _ h => h) (Or.inl ⟨by rfl, ?_⟩) hHeld ?_ ?_; rotate_left
 ·rintro w' ⟨s0, s1, s2⟩; go_simp; with_reducible rfl
 rotate_left
 ·simp only [Act.put, List.setIfInBounds_toArray, List.set_cons_zero, List.set_cons_succ, i64_w, i32_w]; rfl
 refine pure_ (i := 4) (N := some 115) (v := ?_) (a' := ?_) (bm 7 31) rfl rfl (by kernel_rfl) (fun _ _ _ h => h) (Or.inl ⟨by rfl, ?_⟩) ?_ ?_; rotate_left
 ·intro w'; go_simp; with_reducible rfl
 rotate_left
 ·simp only [Act.put, List.setIfInBounds_toArray, List.set_cons_zero, List.set_cons_succ, i64_w, i32_w]; rfl
 refine one_ (i := 5) (N := some 116) (bm 7 63) rfl rfl (by kernel_rfl) (by decide) fun K hK => ?_
 refine gs Try.func83 #[.agg #[.int .i64 a0_0, .int .i64 a0_1, .slice A0_2 l0_2.length c0_2], .slice Ao60 y402.length co60] ?_; with_reducible refine (codewrightref04_Value.calls k2 a0_0 a0_1 _ _ l0_2 _ _ y402 t406 _ ?side1 ?side2 ?side3 ?side4 A56.out).mono ?_
 (case side1 => exact cb HR0_2)
 (case side2 => exact HC0_2.out)
 (case side3 => repeat (first | exact (by repeat (first | (with_reducible exact HR405.out) | (with_reducible refine Kd.C_alloc ?_ _) | (with_reducible refine Kd.C_drewN ?_ _) | (with_reducible refine Kd.C_drew ?_) | exact HR405.out)) | (with_reducible refine Kd.C_alloc ?_ _) | (with_reducible refine Kd.C_drewN ?_ _) | (with_reducible refine Kd.C_drew ?_)))
 (case side4 => exact HC405.out)
 rintro e w61 ⟨rfl, hb⟩; refine ⟨_, rfl, ?_⟩; replace HO_9 := Aside0.mk (Kd.R_below (ra HO_9) hb); replace BK388 := Aside0.mk (blk_below (g := gb388) (o := .cells #[.int .i64 a0_0, .int .i64 a0_1, .slice A0_2 l0_2.length c0_2] 33 (0, 0)) (ba BK388) hb); replace HR405 := Aside0.mk (Kd.C_below (by repeat (first | (with_reducible exact HR405.out) | (with_reducible refine Kd.C_alloc ?_ _) | (with_reducible refine Kd.C_drewN ?_ _) | (with_reducible refine Kd.C_drew ?_) | exact HR405.out)) hb); replace HB := bst hb; refine hK.out _ _ ⟨bc BK388 0, bc BK388 1, bc BK388 2⟩ (fun hHeld => ?_); clear hK K; refine nmz 116 ?_; refine pure_ (i := 6) (N := some 6) (v := ?_) (a' := ?_) (bm 7 127) rfl rfl (by kernel_rfl) (fun _ _ _ h => h) (Or.inl ⟨by rfl, ?_⟩) ?_ ?_; rotate_left
 ·intro w'; go_simp; with_reducible rfl
 rotate_left
 ·simp only [Act.put, List.setIfInBounds_toArray, List.set_cons_zero, List.set_cons_succ, i64_w, i32_w]; rfl
 refine done_ (by kernel_rfl) ?_; try go_wp2
 go_ret; exact ⟨by first | rfl | (simp [errW_none, errW_some] <;> rfl) | (simp only [← hji6]; first | rfl | (simp [errW_none, errW_some] <;> rfl)) | (simp [*, errW_none, errW_some] <;> rfl), bel⟩
mutual
def codewrightref05_Mul.l0 : Nat → List Int → List Int → List Int → Int → Int → Int → List Int → Option (List Int)
 | 0, _, _, _, _, _, _, _ => none
 | k + 1, x1, x2, x7, x8, x412000, x412001, x412002 => if x8 < (x1.length : Int) then (codewrightref05_Mul.l1 k x1 x2 x7 x8 0 x412000 x412001 x412002) else ((codewrightref05_Canon.f k x412000 x412001 x412002 x7).bind fun t421 => (some t421))
def codewrightref05_Mul.l1 : Nat → List Int → List Int → List Int → Int → Int → Int → Int → List Int → Option (List Int)
 | 0, _, _, _, _, _, _, _, _ => none
 | k + 1, x1, x2, x7, x8, x9, x412000, x412001, x412002 => if x9 < (x2.length : Int) then (if 0 ≤ (wrap64 (x8 + x9)) then (if (wrap64 (x8 + x9)) < (x7.length : Int) then (if 0 ≤ x8 then (if x8 < (x1.length : Int) then (if 0 ≤ x9 then ((codewrightref04_Mul.f k x412000 x412001 x412002 (rd x1 x8) (rd x2 x9)).bind fun t427 => ((codewrightref04_Add.f k x412000 x412001 x412002 (rd x7 (wrap64 (x8 + x9))) t427).bind fun t428 => (codewrightref05_Mul.l1 k x1 x2 (x7.set ((wrap64 (x8 + x9)) : Int).toNat t428) x8 (wrap64 (x9 + 1)) x412000 x412001 x412002))) else (none)) else (none)) else (none)) else (none)) else (none)) else (codewrightref05_Mul.l0 k x1 x2 x7 (wrap64 (x8 + 1)) x412000 x412001 x412002)
end
def codewrightref05_Mul.f (k : Nat) (a0_0 : Int) (a0_1 : Int) (l0_2 : List Int) (l1 : List Int) (l2 : List Int) : Option (List Int) := (codewrightref05_Canon.f k a0_0 a0_1 l0_2 l1).bind fun t412 => ((codewrightref05_Canon.f k a0_0 a0_1 l0_2 l2).bind fun t415 => (if 0 ≤ (wrap64 ((t412.length : Int) + (t415.length : Int))) then (if (wrap64 ((t412.length : Int) + (t415.length : Int)) : Int).toNat ≤ 35184372088832 then (codewrightref05_Mul.l0 k t412 t415 (List.replicate (wrap64 ((t412.length : Int) + (t415.length : Int)) : Int).toNat 0) 0 a0_0 a0_1 l0_2) else (none)) else (none)))
def codewrightref05_Mul.T10 : Bool × List (List Nat × List Nat) := (true, [([], []), ([], []), ([], []), ([1, 2], [1, 2]), ([], []), ([], []), ([], []), ([], []), ([6, 7], [6, 7]), ([5, 8], [5, 8]), ([9], [9]), ([], []), ([], []), ([], []), ([12, 13], [12, 13]), ([14], [14]), ([], []), ([], []), ([16, 17], [16, 17]), ([18], [18]), ([11, 15, 19], [11, 15, 19]), ([4, 10, 20, 20], [4, 10, 20]), ([0, 3, 0, 1, 2, 3, 4, 5, 6, 7, 8, 9, 10, 11, 12, 13, 14, 15, 16, 17, 18, 19, 20, 21], [0, 3]), ([22, 21, 21, 0, 1, 2, 3, 4, 5, 6, 7, 8, 9, 10, 11, 12, 13, 14, 15, 16, 17, 18, 19, 20, 21], [21, 22])])
def codewrightref05_Mul.B10 : List Nat := [0, 0, 0, 6, 0, 0, 0, 0, 192, 480, 992, 0, 0, 0, 12288, 28672, 0, 0, 196608, 458752, 1046528, 2097136, 4194303, 8388607]
theorem codewrightref05_Mul.tab10 : rtab .any (opsOf Try.f75 10) = codewrightref05_Mul.T10 := by kernel_rfl
theorem codewrightref05_Mul.bits10 : waitsOk codewrightref05_Mul.T10.2 codewrightref05_Mul.B10 = true := by kernel_rfl
theorem codewrightref05_Mul.calls (k : Nat) (a0_0 : Int) (a0_1 : Int) (A0_2 : Option Addr) (c0_2 : Nat) (l0_2 : List Int) (A1 : Option Addr) (c1 : Nat) (l1 : List Int) (A2 : Option Addr) (c2 : Nat) (l2 : List Int) (r : List Int) (w : World) (hr0_2 : Kd.C (Kd.int .i64) w A0_2 l0_2.length l0_2) (hc0_2 : l0_2.length ≤ c0_2) (hr1 : Kd.C (Kd.int .i64) w A1 l1.length l1) (hc1 : l1.length ≤ c1) (hr2 : Kd.C (Kd.int .i64) w A2 l2.length l2) (hc2 : l2.length ≤ c2) (h : codewrightref05_Mul.f k a0_0 a0_1 l0_2 l1 l2 = some r) :
  Calls Try.prog 75 #[.agg #[.int .i64 a0_0, .int .i64 a0_1, .slice A0_2 l0_2.length c0_2], .slice A1 l1.length c1, .slice A2 l2.length c2] w fun e w' => ∃ v0_ : Value, e = .returned (v0_) ∧ Kd.R (Kd.int .i64) 3 w' w.heap.size (fun _ => True) v0_ r ∧ Below w.heap.size w w' := by
 have hu33 := Try.underlying33; have HR0_2 := Aside0.mk hr0_2; have HC0_2 := Aside0.mk hc0_2; clear hr0_2 hc0_2; have HR1 := Aside0.mk hr1; have HC1 := Aside0.mk hc1; clear hr1 hc1; have HR2 := Aside0.mk hr2; have HC2 := Aside0.mk hc2; clear hr2 hc2; have HB := Aside0.mk (Below.refl w.heap.size w); have H : ((codewrightref05_Canon.f k a0_0 a0_1 l0_2 l1).bind fun t412 => ((codewrightref05_Canon.f k a0_0 a0_1 l0_2 l2).bind fun t415 => (if 0 ≤ (wrap64 ((t412.length : Int) + (t415.length : Int))) then (if (wrap64 ((t412.length : Int) + (t415.length : Int)) : Int).toNat ≤ 35184372088832 then (codewrightref05_Mul.l0 k t412 t415 (List.replicate (wrap64 ((t412.length : Int) + (t415.length : Int)) : Int).toNat 0) 0 a0_0 a0_1 l0_2) else (none)) else (none)))) = some r := h; clear h; replace H := bz H; obtain ⟨t412, A4, H⟩ := H; replace H := bz H; obtain ⟨t415, A5, H⟩ := H; generalize hji6 : (wrap64 ((t412.length : Int) + (t415.length : Int))) = ji6 at H
 (try rw [hji6] at A4)
 (try rw [hji6] at A5)
 have hji6w : (IntKind.i64.wrap ((t412.length : Int) + (t415.length : Int))) = ji6 := (i64_w _).trans hji6; replace H := ift H; obtain ⟨c7b0, c7b1, H⟩ := H; replace H := ift H; obtain ⟨c8b0, c8b1, H⟩ := H; generalize hy418 : ((List.replicate (ji6 : Int).toNat 0) : List Int) = y418 at H; have Ny418 := Aside0.mk hy418.symm; clear hy418; have H' := Aside0.mk H; clear H; go_enter Try.func75, Try.ntmps75; go_wp2_with (first | ((with_reducible refine gate_dst (N := 3) rfl ?_); refine bx (cs := #[.int .i64 a0_0, .int .i64 a0_1, .slice A0_2 l0_2.length c0_2]) (t := 33) ?_; intro gb411 hg w9 hbox hb; have BK411 := Aside0.mk (hbox); have GW411 := Aside0.mk ((by rw [hg]; exact bsz : w.heap.size ≤ gb411)); have GE411 := Aside0.mk ((by rw [hg]; exact bsz : w.heap.size ≤ gb411)); replace HB := bst hb; clear hb hbox hg; obtain ⟨hcz10_0, hcz10_1, hcz10_2, hfz10_0, hfz10_1, hfz10_2⟩ := b3 BK411) | ((with_reducible refine gate_callee (f := 39) rfl ?_); refine gl (some 12) Try.func39 #[.agg #[.int .i64 a0_0, .int .i64 a0_1, .slice A0_2 l0_2.length c0_2], .slice A1 l1.length c1] ?_; (with_reducible refine (codewrightref05_Canon.calls k a0_0 a0_1 _ _ l0_2 _ _ l1 t412 _ ?side1 ?side2 ?side3 ?side4 A4.out).mono ?_); (case side1 => exact cb HR0_2); (case side2 => exact HC0_2.out); (case side3 => exact cb HR1); (case side4 => exact HC1.out); rintro e w11 ⟨v413, rfl, ho0, hb⟩; refine ⟨_, rfl, ?_⟩; have HO414 := Aside0.mk (Kd.R_lower ho0 bsz); replace BK411 := Aside0.mk (blk_below (g := gb411) (o := .cells #[.int .i64 a0_0, .int .i64 a0_1, .slice A0_2 l0_2.length c0_2] 33 (0, 0)) (ba BK411) hb); replace HB := bst hb; obtain ⟨hcz12_0, hcz12_1, hcz12_2, hfz12_0, hfz12_1, hfz12_2⟩ := b3 BK411) | ((with_reducible refine gate_callee (f := 39) rfl ?_); refine gl (some 15) Try.func39 #[.agg #[.int .i64 a0_0, .int .i64 a0_1, .slice A0_2 l0_2.length c0_2], .slice A2 l2.length c2] ?_; (with_reducible refine (codewrightref05_Canon.calls k a0_0 a0_1 _ _ l0_2 _ _ l2 t415 _ ?side1 ?side2 ?side3 ?side4 A5.out).mono ?_); (case side1 => exact cb HR0_2); (case side2 => exact HC0_2.out); (case side3 => exact cb HR2); (case side4 => exact HC2.out); rintro e w13 ⟨v416, rfl, ho0, hb⟩; refine ⟨_, rfl, ?_⟩; have HO417 := Aside0.mk (Kd.R_lower (Kd.R_new' ho0 (Kd.R_lt (ra HO414))) bsz); replace HO414 := Aside0.mk (Kd.R_elder' (ra HO414) (Kd.R_base ho0) hb); replace BK411 := Aside0.mk (blk_below (g := gb411) (o := .cells #[.int .i64 a0_0, .int .i64 a0_1, .slice A0_2 l0_2.length c0_2] 33 (0, 0)) (ba BK411) hb); replace HB := bst hb; obtain ⟨Ao14, co14, eo14⟩ := Kd.R_slice HO414.out; subst eo14; obtain ⟨Ao15, co15, eo15⟩ := Kd.R_slice HO417.out; subst eo15) | ((with_reducible refine gate_dst (N := 21) rfl ?_); refine Kd.R_make (Kd.int .i64) _ 3 rfl (N := 21) rfl 31 _ _ rfl ji6 rfl rfl Try.underlying31 (.int .i64 0) 8 info3 rfl (by decide) (by omega) 0 (ok := fun _ => True) (okp := fun _ => True) rfl (fun _ hk => hk) trivial (oda) (Nat.le_trans (Nat.mul_le_mul_right _ (oda : ji6.toNat ≤ 35184372088832)) (by omega)) (Below.refl _ _) (Nat.le_refl _) ?_; intro v419 w16 ho17 hb hg_ hnew_; clear hg_ hnew_; (first | rw [← Ny418.out] at ho17 | (simp only [Int.reduceToNat] at ho17; rw [← Ny418.out] at ho17)); have HO420 := Aside0.mk (Kd.R_lower (Kd.R_new' (Kd.R_new' ho17 (Kd.R_lt (ra HO414))) (Kd.R_lt (ra HO417))) bsz); replace HO414 := Aside0.mk (Kd.R_elder' (ra HO414) (Kd.R_base ho17) hb); replace HO417 := Aside0.mk (Kd.R_elder' (ra HO417) (Kd.R_base ho17) hb); replace BK411 := Aside0.mk (blk_below (g := gb411) (o := .cells #[.int .i64 a0_0, .int .i64 a0_1, .slice A0_2 l0_2.length c0_2] 33 (0, 0)) (ba BK411) hb); replace HB := bst hb; clear hb ho17))
 go_loopg [8] k (fun kq v8 w' => ∃ (x7_1 : List Int) (x8_1 : Int), v8 = .int .i64 x8_1 ∧ Aside0 (codewrightref05_Mul.l0 kq t412 t415 x7_1 x8_1 a0_0 a0_1 l0_2 = some r) ∧ Aside0 (kq ≤ k) ∧ Aside0 (Kd.R (Kd.int .i64) 3 w' w.heap.size (fun k_ => some k_ ≠ ((.slice Ao15 t415.length co15) : Value).ownBlock ∧ some k_ ≠ (v419 : Value).ownBlock) (.slice Ao14 t412.length co14) t412) ∧ Aside0 (Kd.R (Kd.int .i64) 3 w' w.heap.size (fun k_ => some k_ ≠ ((.slice Ao14 t412.length co14) : Value).ownBlock ∧ some k_ ≠ (v419 : Value).ownBlock) (.slice Ao15 t415.length co15) t415) ∧ Aside0 (Kd.R (Kd.int .i64) 3 w' w.heap.size (fun k_ => some k_ ≠ ((.slice Ao14 t412.length co14) : Value).ownBlock ∧ some k_ ≠ ((.slice Ao15 t415.length co15) : Value).ownBlock) v419 x7_1) ∧ Aside0 (w'.heap[gb411]? = some (.cells #[.int .i64 a0_0, .int .i64 a0_1, (.slice A0_2 l0_2.length c0_2)] 33 (0, 0))) ∧ Aside0 (Below w.heap.size w w'))
 case atStart => exact ⟨(y418), (0), rs, H', ⟨Nat.le_refl _⟩, ⟨Kd.R_mono (ra HO414) (fun _ hk => ⟨hk.1.2, hk.2⟩)⟩, ⟨Kd.R_mono (ra HO417) (fun _ hk => ⟨hk.1.2, hk.2⟩)⟩, ⟨Kd.R_mono (ra HO420) (fun _ hk => ⟨hk.1.2, hk.2⟩)⟩, ⟨ba BK411⟩, ⟨bel⟩⟩
 clear H'; obtain ⟨x7_1, x8_1, rfl, HA, HK1, HO_1, HO_2, HO_7, BK411, HB⟩ := hrel; rcases gk with _ | k1
 ·exact absurd HA.out (by simp [codewrightref05_Mul.l0])
 have H := HA.out; clear HA; simp only [codewrightref05_Mul.l0] at H
 by_cases c18 : x8_1 < (t412.length : Int)
 ·rw [if_pos c18] at H; have c18b0 : decide (x8_1 < (t412.length : Int)) = true := decide_eq_true c18; clear c18; have H' := Aside0.mk H; clear H; go_wp2; go_loopg [9] k1 (fun kq v9 w' => ∃ (x7_2 : List Int) (x9_2 : Int), v9 = .int .i64 x9_2 ∧ Aside0 (codewrightref05_Mul.l1 kq t412 t415 x7_2 x8_1 x9_2 a0_0 a0_1 l0_2 = some r) ∧ Aside0 (kq ≤ k1) ∧ Aside0 (Kd.R (Kd.int .i64) 3 w' w.heap.size (fun k_ => some k_ ≠ ((.slice Ao15 t415.length co15) : Value).ownBlock ∧ some k_ ≠ (v419 : Value).ownBlock) (.slice Ao14 t412.length co14) t412) ∧ Aside0 (Kd.R (Kd.int .i64) 3 w' w.heap.size (fun k_ => some k_ ≠ ((.slice Ao14 t412.length co14) : Value).ownBlock ∧ some k_ ≠ (v419 : Value).ownBlock) (.slice Ao15 t415.length co15) t415) ∧ Aside0 (Kd.R (Kd.int .i64) 3 w' w.heap.size (fun k_ => some k_ ≠ ((.slice Ao14 t412.length co14) : Value).ownBlock ∧ some k_ ≠ ((.slice Ao15 t415.length co15) : Value).ownBlock) v419 x7_2) ∧ Aside0 (w'.heap[gb411]? = some (.cells #[.int .i64 a0_0, .int .i64 a0_1, (.slice A0_2 l0_2.length c0_2)] 33 (0, 0))) ∧ Aside0 (Below w.heap.size w w'))
  case atStart => exact ⟨(x7_1), (0), rs, H', ⟨Nat.le_refl _⟩, ⟨ra HO_1⟩, ⟨ra HO_2⟩, ⟨ra HO_7⟩, ⟨ba BK411⟩, ⟨bel⟩⟩
  clear H'; obtain ⟨x7_2, x9_2, rfl, HA, HK2, HO_1, HO_2, HO_7, BK411, HB⟩ := hrel; rcases gk with _ | k2
  ·exact absurd HA.out (by simp [codewrightref05_Mul.l1])
  have H := HA.out; clear HA; simp only [codewrightref05_Mul.l1] at H
  by_cases c19 : x9_2 < (t415.length : Int)
  ·rw [if_pos c19] at H; have c19b0 : decide (x9_2 < (t415.length : Int)) = true := decide_eq_true c19; clear c19; generalize hji20 : (wrap64 (x8_1 + x9_2)) = ji20 at H; have hji20w : (IntKind.i64.wrap (x8_1 + x9_2)) = ji20 := (i64_w _).trans hji20; replace H := ifd H; obtain ⟨c21b0, H⟩ := H; replace H := ifd H; obtain ⟨c22b0, H⟩ := H; replace H := ifd H; obtain ⟨c23b0, H⟩ := H; replace H := ifd H; obtain ⟨c24b0, H⟩ := H; replace H := ifd H; obtain ⟨c25b0, H⟩ := H; replace H := bz H; obtain ⟨t427, A26, H⟩ := H; replace H := bz H; obtain ⟨t428, A27, H⟩ := H; generalize hy429 : ((x7_2.set ((ji20) : Int).toNat t428) : List Int) = y429 at H; have Ny429 := Aside0.mk hy429.symm; clear hy429; have H' := Aside0.mk H; clear H; try go_wp2
   replace HO_1 := Aside0.mk (Kd.R_drew HO_1.out); replace HO_2 := Aside0.mk (Kd.R_drew HO_2.out); replace HO_7 := Aside0.mk (Kd.R_drew HO_7.out); replace BK411 := Aside0.mk (blk_drew BK411.out); replace HB := Aside0.mk (below_drew1 HB.out); obtain ⟨Ao30, co30, eo30⟩ := Kd.R_slice HO_7.out; (first | subst eo30 | (injection eo30 with f1_ f2_ f3_; have f4_ := f1_.symm; have f5_ := f3_.symm; clear f1_ f2_ f3_; subst f4_; subst f5_))
   have p424 : 0 ≤ ((ji20) : Int) := oda; have q424 : (ji20) < (x7_2.length : Int) := oda; obtain ⟨ad424, e424, hx424_0⟩ := Kd.at_int (Kd.R_reads' HO_7.out).2.2 (ji20) p424 q424; cases e424; replace p424 := eq_true p424; replace q424 := eq_true q424; have p425 : 0 ≤ (x8_1 : Int) := oda; have q425 : x8_1 < (t412.length : Int) := oda; obtain ⟨ad425, e425, hx425_0⟩ := Kd.at_int (Kd.R_reads' HO_1.out).2.2 x8_1 p425 q425; cases e425; replace p425 := eq_true p425; replace q425 := eq_true q425; have p426 : 0 ≤ (x9_2 : Int) := oda; have q426 : x9_2 < (t415.length : Int) := oda; obtain ⟨ad426, e426, hx426_0⟩ := Kd.at_int (Kd.R_reads' HO_2.out).2.2 x9_2 p426 q426; cases e426; replace p426 := eq_true p426; replace q426 := eq_true q426; refine st_ (S := fun w' => w'.cell? ⟨gb411, 0, none⟩ = some (.int .i64 a0_0) ∧ w'.cell? ⟨gb411, 1, none⟩ = some (.int .i64 a0_1) ∧ w'.cell? ⟨gb411, 2, none⟩ = some (.slice A0_2 l0_2.length c0_2) ∧ w'.cell? (ad424.add ((ji20)).toNat) = some (.int .i64 (rd x7_2 (ji20))) ∧ w'.cell? (ad425.add (x8_1).toNat) = some (.int .i64 (rd t412 x8_1)) ∧ w'.cell? (ad426.add (x9_2).toNat) = some (.int .i64 (rd t415 x9_2))) (ds := [23]) 24 codewrightref05_Mul.tab10 codewrightref05_Mul.bits10 ⟨bc BK411 0, bc BK411 1, bc BK411 2, hx424_0, hx425_0, hx426_0⟩ fun hHeld HT_ HW_ => ?_
   generalize wr.drew = w29 at HO_1 HO_2 HO_7 BK411 HB hx424_0 hx425_0 hx426_0 hHeld ⊢; refine pu 0 34 (bm 24 1) ?_; refine pu 1 35 (bm 24 3) ?_; refine pu 2 36 (bm 24 7) ?_; refine pu 3 37 (bm 24 15) ?_; refine pu 5 39 (bm 24 47) ?_; refine pu 6 40 (bm 24 111) ?_; refine pu 7 41 (bm 24 239) ?_; refine pu 8 42 (bm 24 495) ?_; refine pu 9 43 (bm 24 1007) ?_; refine pu 12 46 (bm 24 5103) ?_; refine pu 13 47 (bm 24 13295) ?_; refine pu 14 48 (bm 24 29679) ?_; refine pu 16 50 (bm 24 95215) ?_; refine pu 17 51 (bm 24 226287) ?_; refine pu 18 52 (bm 24 488431) ?_; refine take_ (i := 4) (N := some 38) (v := ?_) (a' := ?_) (bm 24 488447) rfl rfl (take_ofW HT_.out HW_.out (by kernel_rfl)) (fun _ _ _ h => h) (Or.inl ⟨by rfl, ?_⟩) hHeld ?_ ?_; rotate_left
   ·rintro w' ⟨s0, s1, s2, s3, s4, s5⟩; go_simp; with_reducible rfl
   rotate_left
   ·simp only [Act.put, List.setIfInBounds_toArray, List.set_cons_zero, List.set_cons_succ, i64_w, i32_w]; rfl
   refine take_ (i := 10) (N := some 44) (v := ?_) (a' := ?_) (bm 24 489471) rfl rfl (take_ofW HT_.out HW_.out (by kernel_rfl)) (fun _ _ _ h => h) (Or.inl ⟨by rfl, ?_⟩) hHeld ?_ ?_; rotate_left
   ·rintro w' ⟨s0, s1, s2, s3, s4, s5⟩; go_simp; with_reducible rfl
   rotate_left
   ·simp only [Act.put, List.setIfInBounds_toArray, List.set_cons_zero, List.set_cons_succ, i64_w, i32_w]; rfl
   refine take_ (i := 11) (N := some 45) (v := ?_) (a' := ?_) (bm 24 491519) rfl rfl (take_ofW HT_.out HW_.out (by kernel_rfl)) (fun _ _ _ h => h) (Or.inl ⟨by rfl, ?_⟩) hHeld ?_ ?_; rotate_left
   ·rintro w' ⟨s0, s1, s2, s3, s4, s5⟩; go_simp; with_reducible rfl
   rotate_left
   ·simp only [Act.put, List.setIfInBounds_toArray, List.set_cons_zero, List.set_cons_succ, i64_w, i32_w]; rfl
   refine take_ (i := 15) (N := some 49) (v := ?_) (a' := ?_) (bm 24 524287) rfl rfl (take_ofW HT_.out HW_.out (by kernel_rfl)) (fun _ _ _ h => h) (Or.inl ⟨by rfl, ?_⟩) hHeld ?_ ?_; rotate_left
   ·rintro w' ⟨s0, s1, s2, s3, s4, s5⟩; go_simp; with_reducible rfl
   rotate_left
   ·simp only [Act.put, List.setIfInBounds_toArray, List.set_cons_zero, List.set_cons_succ, i64_w, i32_w]; rfl
   refine take_ (i := 19) (N := some 53) (v := ?_) (a' := ?_) (bm 24 1048575) rfl rfl (take_ofW HT_.out HW_.out (by kernel_rfl)) (fun _ _ _ h => h) (Or.inl ⟨by rfl, ?_⟩) hHeld ?_ ?_; rotate_left
   ·rintro w' ⟨s0, s1, s2, s3, s4, s5⟩; go_simp; with_reducible rfl
   rotate_left
   ·simp only [Act.put, List.setIfInBounds_toArray, List.set_cons_zero, List.set_cons_succ, i64_w, i32_w]; rfl
   refine on 20 54 (bm 24 2097151) fun K hK => ?_
   refine gs Try.func48 #[.agg #[.int .i64 a0_0, .int .i64 a0_1, .slice A0_2 l0_2.length c0_2], .int .i64 (rd t412 x8_1), .int .i64 (rd t415 x9_2)] ?_; with_reducible refine (codewrightref04_Mul.calls k2 a0_0 a0_1 _ _ l0_2 (rd t412 x8_1) (rd t415 x9_2) t427 _ ?side1 ?side2 A26.out).mono ?_
   (case side1 => exact cb HR0_2)
   (case side2 => exact HC0_2.out)
   rintro e w31 ⟨rfl, hb⟩; have HS3_ := (hb.cell (World.block_lt_of_cell? _ _ (hHeld.2.2.2.1))).trans (hHeld.2.2.2.1); have HS4_ := (hb.cell (World.block_lt_of_cell? _ _ (hHeld.2.2.2.2.1))).trans (hHeld.2.2.2.2.1); have HS5_ := (hb.cell (World.block_lt_of_cell? _ _ (hHeld.2.2.2.2.2))).trans (hHeld.2.2.2.2.2); refine ⟨_, rfl, ?_⟩; replace HO_1 := Aside0.mk (Kd.R_below (ra HO_1) hb); replace HO_2 := Aside0.mk (Kd.R_below (ra HO_2) hb); replace HO_7 := Aside0.mk (Kd.R_below (ra HO_7) hb); replace BK411 := Aside0.mk (blk_below (g := gb411) (o := .cells #[.int .i64 a0_0, .int .i64 a0_1, .slice A0_2 l0_2.length c0_2] 33 (0, 0)) (ba BK411) hb); replace HB := bst hb; refine hK.out _ _ ⟨bc BK411 0, bc BK411 1, bc BK411 2, HS3_, HS4_, HS5_⟩ (fun hHeld => ?_); clear hK K; refine nmz 54 ?_; refine on 21 55 (bm 24 4194303) fun K hK => ?_
   refine goes_ Try.func47 (by kernel_rfl) rfl #[.agg #[.int .i64 a0_0, .int .i64 a0_1, .slice A0_2 l0_2.length c0_2], .int .i64 (rd x7_2 (ji20)), .int .i64 t427] (by rfl) rfl rfl (by (try simp only [List.map_toArray, List.map_cons, List.map_nil]); first | done | (simp only [hji20]; rfl) | rfl | (simp only [List.length_drop, List.length_take]; rfl)) ?_
   with_reducible refine (codewrightref04_Add.calls k2 a0_0 a0_1 _ _ l0_2 (rd x7_2 (ji20)) t427 t428 _ ?side1 ?side2 A27.out).mono ?_
   (case side1 => exact cb HR0_2)
   (case side2 => exact HC0_2.out)
   rintro e w32 ⟨rfl, hb⟩; have HS3_ := (hb.cell (World.block_lt_of_cell? _ _ (hHeld.2.2.2.1))).trans (hHeld.2.2.2.1); have HS4_ := (hb.cell (World.block_lt_of_cell? _ _ (hHeld.2.2.2.2.1))).trans (hHeld.2.2.2.2.1); have HS5_ := (hb.cell (World.block_lt_of_cell? _ _ (hHeld.2.2.2.2.2))).trans (hHeld.2.2.2.2.2); refine ⟨_, rfl, ?_⟩; replace HO_1 := Aside0.mk (Kd.R_below (ra HO_1) hb); replace HO_2 := Aside0.mk (Kd.R_below (ra HO_2) hb); replace HO_7 := Aside0.mk (Kd.R_below (ra HO_7) hb); replace BK411 := Aside0.mk (blk_below (g := gb411) (o := .cells #[.int .i64 a0_0, .int .i64 a0_1, .slice A0_2 l0_2.length c0_2] 33 (0, 0)) (ba BK411) hb); replace HB := bst hb; have p28 : 0 ≤ ((ji20) : Int) := oda; have q28 : ((ji20) : Int) < ((x7_2.length : Int) : Int) := oda; obtain ⟨go28, co28, eo28, gb28, gl28, cl28, HG28⟩ := Kd.R_form HO_7.out (by omega); (first | cases eo28 | (injection eo28 with ea_ en_ ec_; (first | subst ea_ | (injection ea_ with ea_; subst ea_)); subst ec_; clear en_))
   have GB28 := Aside0.mk gb28; have GG28 := Aside0.mk HG28; clear gb28 gl28 HG28; (first | simp only [add_plain] at hx424_0 | skip)
   obtain ⟨hx28_0, hf28_0⟩ := Kd.R_celln 0 HO_7.out ((ji20) : Int) p28 q28; replace p28 := eq_true p28; replace q28 := eq_true q28; have HP33 := Kd.R_putn HO_7.out ((ji20) : Int) t428; rw [← Ny429.out] at HP33; have HQ33 := Aside0.mk HP33; clear HP33; refine hK.out _ _ ⟨bc BK411 0, bc BK411 1, bc BK411 2, HS3_, HS4_, HS5_⟩ (fun hHeld => ?_); clear hK K; refine nmz 55 ?_; refine pu 22 56 (bm 24 8388607) ?_; refine last_ (i := 23) (N := none) (bm 24 16777215) rfl rfl (one_of HT_.out (by kernel_rfl)) (by decide) fun K hK => ?_
   refine skip_ (w1 := ?_) (by rfl) rfl ?_ ?_; rotate_left
   ·go_simp; rfl
   refine hK.out _ _ ?_; clear hK K; refine dn ?_; try go_wp2
   go_roundg k2
   case measure => have := HK1.out; have := HK2.out; omega
   case rel => exact ⟨(y429), (wrap64 (x9_2 + 1)), rs, H', ⟨by have := HK1.out; have := HK2.out; omega⟩, ⟨by (with_reducible repeat (first | apply Kd.R_alloc | apply Kd.R_drewN | apply Kd.R_drew)); exact Kd.R_mono (Kd.R_far (p := ⟨go28, ((ji20) : Int).toNat, none⟩) (Kd.R_mono HO_1.out (fun k_ hk => (⟨hk, fun e_ => hk.2 (by rw [e_]; rfl)⟩ : _ ∧ k_ ≠ go28))) (fun _ hk => hk.2) (.int .i64 t428)) (fun _ hk => ⟨hk.1.1, hk.1.2⟩)⟩, ⟨by (with_reducible repeat (first | apply Kd.R_alloc | apply Kd.R_drewN | apply Kd.R_drew)); exact Kd.R_mono (Kd.R_far (p := ⟨go28, ((ji20) : Int).toNat, none⟩) (Kd.R_mono HO_2.out (fun k_ hk => (⟨hk, fun e_ => hk.2 (by rw [e_]; rfl)⟩ : _ ∧ k_ ≠ go28))) (fun _ hk => hk.2) (.int .i64 t428)) (fun _ hk => ⟨hk.1.1, hk.1.2⟩)⟩, ⟨ra HQ33⟩, ⟨by (with_reducible repeat (first | refine blk_drewN ?_ _ | refine blk_drew ?_ | refine blk_alloc ?_ _)); refine blk_far ?_ (by have h_ := Kd.R_ne HO_7.out BK411.out (by decide); intro e_; exact h_ (by rw [e_]; rfl)) _; exact ba BK411⟩, ⟨bel⟩⟩
  rw [if_neg c19] at H; have c19b0 : decide (x9_2 < (t415.length : Int)) = false := decide_eq_false c19; clear c19; have H' := Aside0.mk H; clear H; go_wp2; go_roundg k2
  case measure => have := HK1.out; have := HK2.out; omega
  case rel => exact ⟨(x7_2), (wrap64 (x8_1 + 1)), rs, H', ⟨by have := HK1.out; have := HK2.out; omega⟩, ⟨ra HO_1⟩, ⟨ra HO_2⟩, ⟨ra HO_7⟩, ⟨ba BK411⟩, ⟨bel⟩⟩
 rw [if_neg c18] at H; have c18b0 : decide (x8_1 < (t412.length : Int)) = false := decide_eq_false c18; clear c18; replace H := bz H; obtain ⟨t421, A34, H⟩ := H; obtain rfl := Option.some.inj H; obtain ⟨hcz35_0, hcz35_1, hcz35_2, hfz35_0, hfz35_1, hfz35_2⟩ := b3 BK411; obtain ⟨Ao36, co36, eo36⟩ := Kd.R_slice HO_7.out; subst eo36; go_wp2_with (first | ((with_reducible refine gate_callee (f := 39) rfl ?_); refine gl (some 59) Try.func39 #[.agg #[.int .i64 a0_0, .int .i64 a0_1, .slice A0_2 l0_2.length c0_2], .slice Ao36 x7_1.length co36] ?_; (with_reducible refine (codewrightref05_Canon.calls k1 a0_0 a0_1 _ _ l0_2 _ _ x7_1 t421 _ ?side1 ?side2 ?side3 ?side4 A34.out).mono ?_); (case side1 => exact cb HR0_2); (case side2 => exact HC0_2.out); (case side3 => repeat (first | exact (Kd.R_reads' HO_7.out).2.2 | (with_reducible refine Kd.C_alloc ?_ _) | (with_reducible refine Kd.C_drewN ?_ _) | (with_reducible refine Kd.C_drew ?_))); (case side4 => exact (Kd.R_reads' HO_7.out).2.1); rintro e w37 ⟨v422, rfl, ho0, hb⟩; refine ⟨_, rfl, ?_⟩; have HO423 := Aside0.mk (Kd.R_lower (Kd.R_new' (Kd.R_new' (Kd.R_new' ho0 (Kd.R_lt (ra HO_1))) (Kd.R_lt (ra HO_2))) (Kd.R_lt (ra HO_7))) bsz); replace HO_1 := Aside0.mk (Kd.R_elder' (ra HO_1) (Kd.R_base ho0) hb); replace HO_2 := Aside0.mk (Kd.R_elder' (ra HO_2) (Kd.R_base ho0) hb); replace HO_7 := Aside0.mk (Kd.R_elder' (ra HO_7) (Kd.R_base ho0) hb); replace BK411 := Aside0.mk (blk_below (g := gb411) (o := .cells #[.int .i64 a0_0, .int .i64 a0_1, .slice A0_2 l0_2.length c0_2] 33 (0, 0)) (ba BK411) hb); replace HB := bst hb))
 go_ret; exact ⟨_, by first | rfl | (simp [errW_none, errW_some] <;> rfl) | (simp only [← hji6]; first | rfl | (simp [errW_none, errW_some] <;> rfl)) | (simp [*, errW_none, errW_some] <;> rfl), Kd.R_mono (ra HO423) (fun _ hk => trivial), bel⟩
mutual
def codewrightref40_Mul.l0 : Nat → List (List Int) → List (List Int) → List (List Int) → Int → Int → Int → List Int → Option ((List (List Int)))
 | 0, _, _, _, _, _, _, _ => none
 | k + 1, x1, x2, x7, x8, x431000, x431001, x431002 => if x8 < (x1.length : Int) then (codewrightref40_Mul.l1 k x1 x2 x7 x8 0 x431000 x431001 x431002) else ((codewrightref40_Canon.f k x431000 x431001 x431002 x7).bind fun t434 => (some t434))
def codewrightref40_Mul.l1 : Nat → List (List Int) → List (List Int) → List (List Int) → Int → Int → Int → Int → List Int → Option ((List (List Int)))
 | 0, _, _, _, _, _, _, _, _ => none
 | k + 1, x1, x2, x7, x8, x9, x431000, x431001, x431002 => if x9 < (x2.length : Int) then (if 0 ≤ (wrap64 (x8 + x9)) then (if (wrap64 (x8 + x9)) < (x7.length : Int) then (if 0 ≤ x8 then (if x8 < (x1.length : Int) then (if 0 ≤ x9 then ((codewrightref05_Mul.f k x431000 x431001 x431002 (rd_L2 x1 x8) (rd_L2 x2 x9)).bind fun t440 => ((codewrightref05_Add.f k x431000 x431001 x431002 (rd_L2 x7 (wrap64 (x8 + x9))) t440).bind fun t443 => (codewrightref40_Mul.l1 k x1 x2 (x7.set ((wrap64 (x8 + x9)) : Int).toNat t443) x8 (wrap64 (x9 + 1)) x431000 x431001 x431002))) else (none)) else (none)) else (none)) else (none)) else (none)) else (codewrightref40_Mul.l0 k x1 x2 x7 (wrap64 (x8 + 1)) x431000 x431001 x431002)
end
def codewrightref40_Mul.f (k : Nat) (a0_0 : Int) (a0_1 : Int) (l0_2 : List Int) (l1 : List (List Int)) (l2 : List (List Int)) : Option ((List (List Int))) := if 0 ≤ (wrap64 ((l1.length : Int) + (l2.length : Int))) then (if (wrap64 ((l1.length : Int) + (l2.length : Int)) : Int).toNat ≤ 11728124029610 then (codewrightref40_Mul.l0 k l1 l2 (List.replicate (wrap64 ((l1.length : Int) + (l2.length : Int)) : Int).toNat []) 0 a0_0 a0_1 l0_2) else (none)) else (none)
def codewrightref40_Mul.T8 : Bool × List (List Nat × List Nat) := (true, [([], []), ([], []), ([], []), ([1, 2], [1, 2]), ([], []), ([], []), ([], []), ([], []), ([6, 7], [6, 7]), ([5, 8], [5, 8]), ([9], [9]), ([], []), ([], []), ([], []), ([12, 13], [12, 13]), ([14], [14]), ([], []), ([], []), ([16, 17], [16, 17]), ([18], [18]), ([11, 15, 19], [11, 15, 19]), ([4, 10, 20, 20], [4, 10, 20]), ([0, 3, 0, 1, 2, 3, 4, 5, 6, 7, 8, 9, 10, 11, 12, 13, 14, 15, 16, 17, 18, 19, 20, 21], [0, 3]), ([22, 21, 21, 0, 1, 2, 3, 4, 5, 6, 7, 8, 9, 10, 11, 12, 13, 14, 15, 16, 17, 18, 19, 20, 21], [21, 22])])
def codewrightref40_Mul.B8 : List Nat := [0, 0, 0, 6, 0, 0, 0, 0, 192, 480, 992, 0, 0, 0, 12288, 28672, 0, 0, 196608, 458752, 1046528, 2097136, 4194303, 8388607]
theorem codewrightref40_Mul.tab8 : rtab .any (opsOf Try.f32 8) = codewrightref40_Mul.T8 := by kernel_rfl
theorem codewrightref40_Mul.bits8 : waitsOk codewrightref40_Mul.T8.2 codewrightref40_Mul.B8 = true := by kernel_rfl
theorem codewrightref40_Mul.calls (k : Nat) (a0_0 : Int) (a0_1 : Int) (A0_2 : Option Addr) (c0_2 : Nat) (l0_2 : List Int) (A1 : Option Addr) (c1 : Nat) (l1 : List (List Int)) (A2 : Option Addr) (c2 : Nat) (l2 : List (List Int)) (r : List (List Int)) (w : World) (hr0_2 : Kd.C (Kd.int .i64) w A0_2 l0_2.length l0_2) (hc0_2 : l0_2.length ≤ c0_2) (hr1 : Kd.C (Kd.slice 3 (Kd.int .i64)) w A1 l1.length l1) (hc1 : l1.length ≤ c1) (hr2 : Kd.C (Kd.slice 3 (Kd.int .i64)) w A2 l2.length l2) (hc2 : l2.length ≤ c2) (h : codewrightref40_Mul.f k a0_0 a0_1 l0_2 l1 l2 = some r) :
  Calls Try.prog 32 #[.agg #[.int .i64 a0_0, .int .i64 a0_1, .slice A0_2 l0_2.length c0_2], .slice A1 l1.length c1, .slice A2 l2.length c2] w fun e w' => ∃ v0_ : Value, e = .returned (v0_) ∧ Kd.N (Kd.slice 3 (Kd.int .i64)) 31 w' w.heap.size (fun k_ => (w.heap.size ≤ k_)) v0_ r ∧ Below w.heap.size w w' := by
 have hu33 := Try.underlying33; have HR0_2 := Aside0.mk hr0_2; have HC0_2 := Aside0.mk hc0_2; clear hr0_2 hc0_2; have HR1 := Aside0.mk hr1; have HC1 := Aside0.mk hc1; clear hr1 hc1; have HR2 := Aside0.mk hr2; have HC2 := Aside0.mk hc2; clear hr2 hc2; have HB := Aside0.mk (Below.refl w.heap.size w); have H : (if 0 ≤ (wrap64 ((l1.length : Int) + (l2.length : Int))) then (if (wrap64 ((l1.length : Int) + (l2.length : Int)) : Int).toNat ≤ 11728124029610 then (codewrightref40_Mul.l0 k l1 l2 (List.replicate (wrap64 ((l1.length : Int) + (l2.length : Int)) : Int).toNat []) 0 a0_0 a0_1 l0_2) else (none)) else (none)) = some r := h; clear h; generalize hji4 : (wrap64 ((l1.length : Int) + (l2.length : Int))) = ji4 at H; have hji4w : (IntKind.i64.wrap ((l1.length : Int) + (l2.length : Int))) = ji4 := (i64_w _).trans hji4; replace H := ift H; obtain ⟨c5b0, c5b1, H⟩ := H; replace H := ift H; obtain ⟨c6b0, c6b1, H⟩ := H; generalize hy431 : ((List.replicate (ji4 : Int).toNat []) : List (List Int)) = y431 at H; have Ny431 := Aside0.mk hy431.symm; clear hy431; have H' := Aside0.mk H; clear H; go_enter Try.func32, Try.ntmps32; go_wp2_with (first | ((with_reducible refine gate_dst (N := 3) rfl ?_); refine bx (cs := #[.int .i64 a0_0, .int .i64 a0_1, .slice A0_2 l0_2.length c0_2]) (t := 33) ?_; intro gb430 hg w7 hbox hb; have BK430 := Aside0.mk (hbox); have GW430 := Aside0.mk ((by rw [hg]; exact bsz : w.heap.size ≤ gb430)); have GE430 := Aside0.mk ((by rw [hg]; exact bsz : w.heap.size ≤ gb430)); replace HB := bst hb; clear hb hbox hg) | ((with_reducible refine gate_dst (N := 15) rfl ?_); refine Kd.N_make (Kd.slice 3 (Kd.int .i64)) _ 31 rfl (N' := 15) rfl 35 _ _ rfl ji4 rfl rfl Try.underlying35 (.slice none 0 0) 24 info31 rfl (by decide) (by omega) [] (ok := fun k_ => w7.heap.size ≤ k_) (okp := fun _ => False) (Kd.FK_slice_mk (Nat.le_refl _) (Kd.F_nil _ _ _)) (fun _ hk => hk.elim) (Nat.le_refl _) (oda) (Nat.le_trans (Nat.mul_le_mul_right _ (oda : ji4.toNat ≤ 11728124029610)) (by omega)) (Below.refl _ _) (Nat.le_refl _) ?_; intro v432 w8 ho9 hb hg_ hnew_; clear hg_ hnew_; (first | rw [← Ny431.out] at ho9 | (simp only [Int.reduceToNat] at ho9; rw [← Ny431.out] at ho9)); have HO433 := Aside0.mk (Kd.N_lower (Kd.N_mono (ok' := fun k_ => (w.heap.size ≤ k_) ∧ k_ ≠ gb430) ho9 (fun k_ hk_ => ⟨(Nat.le_trans bsz hk_), (Kd.freshB (g := gb430) (o := .cells #[.int .i64 a0_0, .int .i64 a0_1, .slice A0_2 l0_2.length c0_2] 33 (0, 0)) (ba BK430) k_ hk_)⟩)) bsz); replace BK430 := Aside0.mk (blk_below (g := gb430) (o := .cells #[.int .i64 a0_0, .int .i64 a0_1, .slice A0_2 l0_2.length c0_2] 33 (0, 0)) (ba BK430) hb); replace HB := bst hb; clear hb ho9))
 go_loopg [8] k (fun kq v8 w' => ∃ (x7_1 : List (List Int)) (x8_1 : Int), v8 = .int .i64 x8_1 ∧ Aside0 (codewrightref40_Mul.l0 kq l1 l2 x7_1 x8_1 a0_0 a0_1 l0_2 = some r) ∧ Aside0 (kq ≤ k) ∧ Aside0 (Kd.N (Kd.slice 3 (Kd.int .i64)) 31 w' w.heap.size (fun k_ => (w.heap.size ≤ k_) ∧ k_ ≠ gb430) v432 x7_1) ∧ Aside0 (w'.heap[gb430]? = some (.cells #[.int .i64 a0_0, .int .i64 a0_1, (.slice A0_2 l0_2.length c0_2)] 33 (0, 0))) ∧ Aside0 (Below w.heap.size w w'))
 case atStart => exact ⟨(y431), (0), rs, H', ⟨Nat.le_refl _⟩, ⟨na HO433⟩, ⟨ba BK430⟩, ⟨bel⟩⟩
 clear H'; obtain ⟨x7_1, x8_1, rfl, HA, HK1, HO_7, BK430, HB⟩ := hrel; rcases gk with _ | k1
 ·exact absurd HA.out (by simp [codewrightref40_Mul.l0])
 have H := HA.out; clear HA; simp only [codewrightref40_Mul.l0] at H
 by_cases c10 : x8_1 < (l1.length : Int)
 ·rw [if_pos c10] at H; have c10b0 : decide (x8_1 < (l1.length : Int)) = true := decide_eq_true c10; clear c10; have H' := Aside0.mk H; clear H; go_wp2; go_loopg [9] k1 (fun kq v9 w' => ∃ (x7_2 : List (List Int)) (x9_2 : Int), v9 = .int .i64 x9_2 ∧ Aside0 (codewrightref40_Mul.l1 kq l1 l2 x7_2 x8_1 x9_2 a0_0 a0_1 l0_2 = some r) ∧ Aside0 (kq ≤ k1) ∧ Aside0 (Kd.N (Kd.slice 3 (Kd.int .i64)) 31 w' w.heap.size (fun k_ => (w.heap.size ≤ k_) ∧ k_ ≠ gb430) v432 x7_2) ∧ Aside0 (w'.heap[gb430]? = some (.cells #[.int .i64 a0_0, .int .i64 a0_1, (.slice A0_2 l0_2.length c0_2)] 33 (0, 0))) ∧ Aside0 (Below w.heap.size w w'))
  case atStart => exact ⟨(x7_1), (0), rs, H', ⟨Nat.le_refl _⟩, ⟨na HO_7⟩, ⟨ba BK430⟩, ⟨bel⟩⟩
  clear H'; obtain ⟨x7_2, x9_2, rfl, HA, HK2, HO_7, BK430, HB⟩ := hrel; rcases gk with _ | k2
  ·exact absurd HA.out (by simp [codewrightref40_Mul.l1])
  have H := HA.out; clear HA; simp only [codewrightref40_Mul.l1] at H
  by_cases c11 : x9_2 < (l2.length : Int)
  ·rw [if_pos c11] at H; have c11b0 : decide (x9_2 < (l2.length : Int)) = true := decide_eq_true c11; clear c11; generalize hji12 : (wrap64 (x8_1 + x9_2)) = ji12 at H; have hji12w : (IntKind.i64.wrap (x8_1 + x9_2)) = ji12 := (i64_w _).trans hji12; replace H := ifd H; obtain ⟨c13b0, H⟩ := H; replace H := ifd H; obtain ⟨c14b0, H⟩ := H; replace H := ifd H; obtain ⟨c15b0, H⟩ := H; replace H := ifd H; obtain ⟨c16b0, H⟩ := H; replace H := ifd H; obtain ⟨c17b0, H⟩ := H; replace H := bz H; obtain ⟨t440, A18, H⟩ := H; replace H := bz H; obtain ⟨t443, A19, H⟩ := H; generalize hy446 : ((x7_2.set ((ji12) : Int).toNat t443) : List (List Int)) = y446 at H; have Ny446 := Aside0.mk hy446.symm; clear hy446; have H' := Aside0.mk H; clear H; try go_wp2
   replace HO_7 := Aside0.mk (Kd.N_drew HO_7.out); replace BK430 := Aside0.mk (blk_drew BK430.out); replace HB := Aside0.mk (below_drew1 HB.out); obtain ⟨Ao22, co22, eo22⟩ := Kd.N_slice HO_7.out; (first | subst eo22 | (injection eo22 with f1_ f2_ f3_; have f4_ := f1_.symm; have f5_ := f3_.symm; clear f1_ f2_ f3_; subst f4_; subst f5_))
   have p437 : 0 ≤ ((ji12) : Int) := oda; have q437 : (ji12) < (x7_2.length : Int) := oda; obtain ⟨ad437, A437_0, c437_0, e437, hx437_0, hl437_0, hi437_0⟩ := at_L2 (Kd.N_reads' HO_7.out).2.2 (ji12) p437 q437; cases e437; obtain ⟨ce437, hce437, hMe437, hcc437⟩ := Kd.N_get HO_7.out [] (ji12) p437 (by first | exact q437 | exact oda | (have e_ := (Kd.N_reads' HO_7.out).1; omega))
   obtain ⟨ua437_0, uc437_0, rfl, ul437_0, ge437_0⟩ := Kd.FK_slice_open hMe437; have hv437_0 := hcc437 0 _ rfl; rw [Nat.add_zero, show ((Kd.slice 3 (Kd.int .i64))).sz = 1 from rfl, Nat.mul_one] at hv437_0; replace hv437_0 := Option.some.inj (hv437_0.symm.trans hx437_0); injection hv437_0 with hva_ hvn_ hvc_
   rw [hva_] at ge437_0; rw [hvc_] at ul437_0; have HL437_0 := Aside0.mk (show Kd.V (Kd.int .i64) 3 _ w.heap.size _ _ (rd_L2 x7_2 (ji12)) from Kd.V_mk ul437_0 ge437_0); clear hva_ hvn_ hvc_ ge437_0 ul437_0; clear hcc437 hce437; have HR437_0 := Aside0.mk hi437_0; have HC437_0 := Aside0.mk hl437_0; clear hi437_0 hl437_0; replace p437 := eq_true p437; replace q437 := eq_true q437; have p438 : 0 ≤ (x8_1 : Int) := oda; have q438 : x8_1 < (l1.length : Int) := oda; obtain ⟨ad438, A438_0, c438_0, e438, hx438_0, hl438_0, hi438_0⟩ := at_L2 HR1.out x8_1 p438 q438; have hw438_0 := hx438_0; cases e438
   (try replace hx438_0 := hbc hx438_0)
   have HR438_0 := Aside0.mk hi438_0; have HC438_0 := Aside0.mk hl438_0; clear hi438_0 hl438_0; replace p438 := eq_true p438; replace q438 := eq_true q438; have p439 : 0 ≤ (x9_2 : Int) := oda; have q439 : x9_2 < (l2.length : Int) := oda; obtain ⟨ad439, A439_0, c439_0, e439, hx439_0, hl439_0, hi439_0⟩ := at_L2 HR2.out x9_2 p439 q439; have hw439_0 := hx439_0; cases e439
   (try replace hx439_0 := hbc hx439_0)
   have HR439_0 := Aside0.mk hi439_0; have HC439_0 := Aside0.mk hl439_0; clear hi439_0 hl439_0; replace p439 := eq_true p439; replace q439 := eq_true q439; refine st_ (S := fun w' => w'.cell? ⟨gb430, 0, none⟩ = some (.int .i64 a0_0) ∧ w'.cell? ⟨gb430, 1, none⟩ = some (.int .i64 a0_1) ∧ w'.cell? ⟨gb430, 2, none⟩ = some (.slice A0_2 l0_2.length c0_2) ∧ w'.cell? (ad437.add ((ji12)).toNat) = some (.slice A437_0 (rd_L2 x7_2 (ji12)).length c437_0) ∧ w'.cell? (ad438.add (x8_1).toNat) = some (.slice A438_0 (rd_L2 l1 x8_1).length c438_0) ∧ w'.cell? (ad439.add (x9_2).toNat) = some (.slice A439_0 (rd_L2 l2 x9_2).length c439_0)) (ds := [23]) 24 codewrightref40_Mul.tab8 codewrightref40_Mul.bits8 ⟨bc BK430 0, bc BK430 1, bc BK430 2, hx437_0, (hbc hw438_0), (hbc hw439_0)⟩ fun hHeld HT_ HW_ => ?_
   generalize wr.drew = w21 at HO_7 BK430 HB HL437_0 HR437_0 HR438_0 HR439_0 hx437_0 hx438_0 hx439_0 hHeld ⊢; refine pu 0 28 (bm 24 1) ?_; refine pu 1 29 (bm 24 3) ?_; refine pu 2 30 (bm 24 7) ?_; refine pu 3 31 (bm 24 15) ?_; refine pu 5 33 (bm 24 47) ?_; refine pu 6 34 (bm 24 111) ?_; refine pu 7 35 (bm 24 239) ?_; refine pu 8 36 (bm 24 495) ?_; refine pu 9 37 (bm 24 1007) ?_; refine pu 12 40 (bm 24 5103) ?_; refine pu 13 41 (bm 24 13295) ?_; refine pu 14 42 (bm 24 29679) ?_; refine pu 16 44 (bm 24 95215) ?_; refine pu 17 45 (bm 24 226287) ?_; refine pu 18 46 (bm 24 488431) ?_; refine take_ (i := 4) (N := some 32) (v := ?_) (a' := ?_) (bm 24 488447) rfl rfl (take_ofW HT_.out HW_.out (by kernel_rfl)) (fun _ _ _ h => h) (Or.inl ⟨by rfl, ?_⟩) hHeld ?_ ?_; rotate_left
   ·rintro w' ⟨s0, s1, s2, s3, s4, s5⟩; go_simp; with_reducible rfl
   rotate_left
   ·simp only [Act.put, List.setIfInBounds_toArray, List.set_cons_zero, List.set_cons_succ, i64_w, i32_w]; rfl
   refine take_ (i := 10) (N := some 38) (v := ?_) (a' := ?_) (bm 24 489471) rfl rfl (take_ofW HT_.out HW_.out (by kernel_rfl)) (fun _ _ _ h => h) (Or.inl ⟨by rfl, ?_⟩) hHeld ?_ ?_; rotate_left
   ·rintro w' ⟨s0, s1, s2, s3, s4, s5⟩; go_simp; with_reducible rfl
   rotate_left
   ·simp only [Act.put, List.setIfInBounds_toArray, List.set_cons_zero, List.set_cons_succ, i64_w, i32_w]; rfl
   refine take_ (i := 11) (N := some 39) (v := ?_) (a' := ?_) (bm 24 491519) rfl rfl (take_ofW HT_.out HW_.out (by kernel_rfl)) (fun _ _ _ h => h) (Or.inl ⟨by rfl, ?_⟩) hHeld ?_ ?_; rotate_left
   ·rintro w' ⟨s0, s1, s2, s3, s4, s5⟩; go_simp; with_reducible rfl
   rotate_left
   ·simp only [Act.put, List.setIfInBounds_toArray, List.set_cons_zero, List.set_cons_succ, i64_w, i32_w]; rfl
   refine take_ (i := 15) (N := some 43) (v := ?_) (a' := ?_) (bm 24 524287) rfl rfl (take_ofW HT_.out HW_.out (by kernel_rfl)) (fun _ _ _ h => h) (Or.inl ⟨by rfl, ?_⟩) hHeld ?_ ?_; rotate_left
   ·rintro w' ⟨s0, s1, s2, s3, s4, s5⟩; go_simp; with_reducible rfl
   rotate_left
   ·simp only [Act.put, List.setIfInBounds_toArray, List.set_cons_zero, List.set_cons_succ, i64_w, i32_w]; rfl
   refine take_ (i := 19) (N := some 47) (v := ?_) (a' := ?_) (bm 24 1048575) rfl rfl (take_ofW HT_.out HW_.out (by kernel_rfl)) (fun _ _ _ h => h) (Or.inl ⟨by rfl, ?_⟩) hHeld ?_ ?_; rotate_left
   ·rintro w' ⟨s0, s1, s2, s3, s4, s5⟩; go_simp; with_reducible rfl
   rotate_left
   ·simp only [Act.put, List.setIfInBounds_toArray, List.set_cons_zero, List.set_cons_succ, i64_w, i32_w]; rfl
   refine on 20 48 (bm 24 2097151) fun K hK => ?_
   refine gs Try.func75 #[.agg #[.int .i64 a0_0, .int .i64 a0_1, .slice A0_2 l0_2.length c0_2], .slice A438_0 (rd_L2 l1 x8_1).length c438_0, .slice A439_0 (rd_L2 l2 x9_2).length c439_0] ?_; with_reducible refine (codewrightref05_Mul.calls k2 a0_0 a0_1 _ _ l0_2 _ _ (rd_L2 l1 x8_1) _ _ (rd_L2 l2 x9_2) t440 _ ?side1 ?side2 ?side3 ?side4 ?side5 ?side6 A18.out).mono ?_
   (case side1 => exact cb HR0_2)
   (case side2 => exact HC0_2.out)
   (case side3 => exact cb HR438_0)
   (case side4 => exact HC438_0.out)
   (case side5 => exact cb HR439_0)
   (case side6 => exact HC439_0.out)
   rintro e w23 ⟨v441, rfl, ho0, hb⟩; have HS3_ := (hb.cell (World.block_lt_of_cell? _ _ (hHeld.2.2.2.1))).trans (hHeld.2.2.2.1); refine ⟨_, rfl, ?_⟩; replace HO_7 := Aside0.mk (Kd.N_elder' (na HO_7) (Kd.R_base ho0) hb); replace HL437_0 := Aside0.mk (Kd.V_elder' (va HL437_0) (Kd.R_base ho0) hb); have HO442 := Aside0.mk (Kd.R_lower (Kd.R_newM (M := fun k_ => (w.heap.size ≤ k_)) ho0 bsz (fun k_ h_ => h_)) bsz); replace BK430 := Aside0.mk (blk_below (g := gb430) (o := .cells #[.int .i64 a0_0, .int .i64 a0_1, .slice A0_2 l0_2.length c0_2] 33 (0, 0)) (ba BK430) hb); replace HR437_0 := Aside0.mk (Kd.C_below (by repeat (first | (with_reducible exact HR437_0.out) | (with_reducible refine Kd.C_alloc ?_ _) | (with_reducible refine Kd.C_drewN ?_ _) | (with_reducible refine Kd.C_drew ?_) | exact HR437_0.out)) hb); replace HB := bst hb; obtain ⟨Ao24, co24, eo24⟩ := Kd.R_slice HO442.out; (first | subst eo24 | (injection eo24 with f1_ f2_ f3_; have f4_ := f1_.symm; have f5_ := f3_.symm; clear f1_ f2_ f3_; subst f4_; subst f5_))
   refine hK.out _ _ ⟨bc BK430 0, bc BK430 1, bc BK430 2, HS3_, (hbc hw438_0), (hbc hw439_0)⟩ (fun hHeld => ?_); clear hK K; refine nmz 48 ?_; refine on 21 49 (bm 24 4194303) fun K hK => ?_
   refine goes_ Try.func72 (by kernel_rfl) rfl #[.agg #[.int .i64 a0_0, .int .i64 a0_1, .slice A0_2 l0_2.length c0_2], .slice A437_0 (rd_L2 x7_2 (ji12)).length c437_0, .slice Ao24 t440.length co24] (by rfl) rfl rfl (by (try simp only [List.map_toArray, List.map_cons, List.map_nil]); first | done | (simp only [hji12]; rfl) | rfl | (simp only [List.length_drop, List.length_take]; rfl)) ?_
   with_reducible refine (codewrightref05_Add.calls k2 a0_0 a0_1 _ _ l0_2 _ _ (rd_L2 x7_2 (ji12)) _ _ t440 t443 _ ?side1 ?side2 ?side3 ?side4 ?side5 ?side6 A19.out).mono ?_
   (case side1 => exact cb HR0_2)
   (case side2 => exact HC0_2.out)
   (case side3 => repeat (first | exact (by repeat (first | (with_reducible exact HR437_0.out) | (with_reducible refine Kd.C_alloc ?_ _) | (with_reducible refine Kd.C_drewN ?_ _) | (with_reducible refine Kd.C_drew ?_) | exact HR437_0.out)) | (with_reducible refine Kd.C_alloc ?_ _) | (with_reducible refine Kd.C_drewN ?_ _) | (with_reducible refine Kd.C_drew ?_)))
   (case side4 => exact HC437_0.out)
   (case side5 => repeat (first | exact (Kd.R_reads' HO442.out).2.2 | (with_reducible refine Kd.C_alloc ?_ _) | (with_reducible refine Kd.C_drewN ?_ _) | (with_reducible refine Kd.C_drew ?_)))
   (case side6 => exact (Kd.R_reads' HO442.out).2.1)
   rintro e w25 ⟨v444, rfl, ho0, hb⟩; have HS3_ := (hb.cell (World.block_lt_of_cell? _ _ (hHeld.2.2.2.1))).trans (hHeld.2.2.2.1); refine ⟨_, rfl, ?_⟩; have n0_ := Aside0.mk (Kd.N_elder' (na HO_7) (Kd.R_base ho0) hb); have n1_ := Aside0.mk (Kd.V_elder' (va HL437_0) (Kd.R_base ho0) hb); have n2_ := Aside0.mk (Kd.R_elder' (ra HO442) (Kd.R_base ho0) hb); have n3_ := Aside0.mk (Kd.R_lower (Kd.R_new' (Kd.R_newM (M := fun k_ => (w.heap.size ≤ k_)) ho0 bsz (fun k_ h_ => h_)) (Kd.R_lt (ra HO442))) bsz); have n4_ := Aside0.mk (blk_below (g := gb430) (o := .cells #[.int .i64 a0_0, .int .i64 a0_1, .slice A0_2 l0_2.length c0_2] 33 (0, 0)) (ba BK430) hb); have n5_ := Aside0.mk (Kd.C_below (by repeat (first | (with_reducible exact HR437_0.out) | (with_reducible refine Kd.C_alloc ?_ _) | (with_reducible refine Kd.C_drewN ?_ _) | (with_reducible refine Kd.C_drew ?_) | exact HR437_0.out)) hb); have n6_ := bst hb; clear HO_7; clear HL437_0; clear HO442; clear BK430; clear HR437_0; clear HB; have HO_7 := n0_; have HL437_0 := n1_; have HO442 := n2_; have HO445 := n3_; obtain ⟨Ao445, co445, eo445⟩ := Kd.R_slice HO445.out; subst eo445; have BK430 := n4_; have HR437_0 := n5_; have HB := n6_; clear n0_ n1_ n2_ n3_ n4_ n5_ n6_; have p20 : 0 ≤ ((ji12) : Int) := oda; have q20 : ((ji12) : Int) < ((x7_2.length : Int) : Int) := oda; obtain ⟨go20, co20, eo20, gb20, gl20, cl20, HG20⟩ := Kd.N_form HO_7.out (by omega); (first | cases eo20 | (injection eo20 with ea_ en_ ec_; (first | subst ea_ | (injection ea_ with ea_; subst ea_)); subst ec_; clear en_))
   have GB20 := Aside0.mk gb20; have GG20 := Aside0.mk HG20; clear gb20 gl20 HG20; (first | simp only [add_plain] at hx437_0 | skip)
   obtain ⟨ce20, hcl20, hM20, hcc20, hfr20⟩ := Kd.N_elem HO_7.out [] ((ji12) : Int) p20 q20; obtain ⟨ua20_0, uc20_0, rfl, ul20_0, ge20_0⟩ := Kd.FK_slice_open hM20; have hx20_0 := hcc20 0 _ rfl; have hf20_0 := hfr20 0
   (try simp only [show ((Kd.slice 3 (Kd.int .i64))).sz = 1 from rfl, Nat.mul_one, Nat.add_zero] at hx20_0)
   (try simp only [show ((Kd.slice 3 (Kd.int .i64))).sz = 1 from rfl, Nat.mul_one, Nat.add_zero] at hf20_0)
   clear hcl20 hcc20 hfr20; (try clear hM20)
   replace p20 := eq_true p20; replace q20 := eq_true q20; have HX26 := Aside0.mk (show Kd.N (Kd.slice 3 (Kd.int .i64)) 31 _ w.heap.size (fun k_ => (w.heap.size ≤ k_) ∧ some k_ ≠ (.slice Ao24 t440.length co24 : Value).ownBlock ∧ some k_ ≠ ((.slice Ao445 t443.length co445) : Value).ownBlock ∧ k_ ≠ gb430) (.slice (some ⟨go20, 0, none⟩) x7_2.length co22) x7_2 from (Kd.N_mono (HO_7.out) (fun k_ hk => ⟨hk.1.1.1, ⟨hk.1.2, ⟨hk.2, hk.1.1.2⟩⟩⟩))); replace HX26 := Aside0.mk (show Kd.N (Kd.slice 3 (Kd.int .i64)) 31 _ w.heap.size (fun k_ => (w.heap.size ≤ k_) ∧ some k_ ≠ (.slice Ao24 t440.length co24 : Value).ownBlock ∧ k_ ≠ gb430) (.slice (some ⟨go20, 0, none⟩) x7_2.length co22) x7_2 from Kd.N_mono HX26.out (fun k_ hk => ⟨hk.1, ⟨hk.2.1, hk.2.2.2⟩⟩)); obtain ⟨ce26, hcl26, hM26, hcc26, hfr26⟩ := Kd.N_elem HX26.out [] ((ji12) : Int) (oda) (by have h_ : ((ji12) : Int) < ((x7_2.length : Int) : Int) := oda; first | exact h_ | (have e_ := (Kd.N_reads' HO_7.out).1; omega) | simpa using h_)
   obtain ⟨ua26_0, uc26_0, rfl, ul26_0, ge26_0⟩ := Kd.FK_slice_open hM26; have HT1_ := (Kd.R_types (Kd.R_apart' (HO445.out) (Kd.N_typed HO_7.out) (by decide)) BK430.out (by decide)); have HM1_ := Kd.R_mono (ok' := (fun k_ => ((fun k_ => (w.heap.size ≤ k_) ∧ some k_ ≠ (.slice Ao24 t440.length co24 : Value).ownBlock ∧ k_ ≠ gb430)) k_ ∧ k_ ≠ go20)) HT1_ (fun k_ hk => ⟨⟨hk.1.1.1.1, ⟨hk.1.1.2, hk.2⟩⟩, fun e_ => (hk.1.2) (by rw [e_]; rfl)⟩); have HP26 := (Kd.N_seg HX26.out ((ji12) : Int) (oda) (by have h_ : ((ji12) : Int) < ((x7_2.length : Int) : Int) := oda; first | exact h_ | (have e_ := (Kd.N_reads' HO_7.out).1; omega) | simpa using h_) (seg := [(.slice Ao445 t443.length co445)]) (j := 0) hcl26 hcc26 (show 1 ≤ 1 from by decide) (x' := t443) (FK_of_R HM1_) (fun _ hk => hk)).1
   (try simp only [show ((Kd.slice 3 (Kd.int .i64))).sz = 1 from rfl, Nat.mul_one, Nat.add_zero] at HP26)
   rw [← Ny446.out] at HP26; have HQ26 := Aside0.mk HP26; clear hcl26 hcc26 hfr26 hM26 HP26; refine hK.out _ _ ⟨bc BK430 0, bc BK430 1, bc BK430 2, HS3_, (hbc hw438_0), (hbc hw439_0)⟩ (fun hHeld => ?_); clear hK K; refine nmz 49 ?_; refine pu 22 50 (bm 24 8388607) ?_; refine last_ (i := 23) (N := none) (bm 24 16777215) rfl rfl (one_of HT_.out (by kernel_rfl)) (by decide) fun K hK => ?_
   refine skip_ (w1 := ?_) (by rfl) rfl ?_ ?_; rotate_left
   ·go_simp; rfl
   refine hK.out _ _ ?_; clear hK K; refine dn ?_; try go_wp2
   go_roundg k2
   case measure => have := HK1.out; have := HK2.out; omega
   case rel => exact ⟨(y446), (wrap64 (x9_2 + 1)), rs, H', ⟨by have := HK1.out; have := HK2.out; omega⟩, ⟨Kd.N_mono (na HQ26) (fun _ hk => ⟨hk.1, hk.2.2⟩)⟩, ⟨by (with_reducible repeat (first | refine blk_drewN ?_ _ | refine blk_drew ?_ | refine blk_alloc ?_ _)); refine blk_far ?_ (by have h_ := Kd.N_away HO_7.out (fun _ hk => by first | exact hk.2 | exact hk.1.2 | exact hk.2.2 | exact hk.2.1 | exact hk.1.1.2 | exact hk.1.2.2 | exact hk.2.2.2 | exact hk.2.1.2 | exact hk.2.2.1); intro e_; exact h_ (by rw [e_]; rfl)) _; exact ba BK430⟩, ⟨bel⟩⟩
  rw [if_neg c11] at H; have c11b0 : decide (x9_2 < (l2.length : Int)) = false := decide_eq_false c11; clear c11; have H' := Aside0.mk H; clear H; go_wp2; go_roundg k2
  case measure => have := HK1.out; have := HK2.out; omega
  case rel => exact ⟨(x7_2), (wrap64 (x8_1 + 1)), rs, H', ⟨by have := HK1.out; have := HK2.out; omega⟩, ⟨na HO_7⟩, ⟨ba BK430⟩, ⟨bel⟩⟩
 rw [if_neg c10] at H; have c10b0 : decide (x8_1 < (l1.length : Int)) = false := decide_eq_false c10; clear c10; replace H := bz H; obtain ⟨t434, A27, H⟩ := H; obtain rfl := Option.some.inj H; obtain ⟨hcz28_0, hcz28_1, hcz28_2, hfz28_0, hfz28_1, hfz28_2⟩ := b3 BK430; obtain ⟨Ao29, co29, eo29⟩ := Kd.N_slice HO_7.out; subst eo29; go_wp2_with (first | ((with_reducible refine gate_callee (f := 28) rfl ?_); refine gl (some 53) Try.func28 #[.agg #[.int .i64 a0_0, .int .i64 a0_1, .slice A0_2 l0_2.length c0_2], .slice Ao29 x7_1.length co29] ?_; (with_reducible refine (codewrightref40_Canon.calls k1 a0_0 a0_1 _ _ l0_2 _ _ x7_1 t434 _ ?side1 ?side2 ?side3 ?side4 A27.out).mono ?_); (case side1 => exact cb HR0_2); (case side2 => exact HC0_2.out); (case side3 => repeat (first | exact (Kd.N_reads' HO_7.out).2.2 | (with_reducible refine Kd.C_alloc ?_ _) | (with_reducible refine Kd.C_drewN ?_ _) | (with_reducible refine Kd.C_drew ?_))); (case side4 => exact (Kd.N_reads' HO_7.out).2.1); rintro e w30 ⟨v435, rfl, ho0, hb⟩; refine ⟨_, rfl, ?_⟩; have HO436 := Aside0.mk (Kd.N_lower (Kd.N_mono (ok' := fun k_ => (w.heap.size ≤ k_) ∧ some k_ ≠ (.slice Ao29 x7_1.length co29 : Value).ownBlock ∧ k_ ≠ gb430) ho0 (fun k_ hk_ => ⟨(Nat.le_trans bsz hk_), (Kd.fresh' (Kd.N_lt (na HO_7)) k_ hk_), (Kd.freshB (g := gb430) (o := .cells #[.int .i64 a0_0, .int .i64 a0_1, .slice A0_2 l0_2.length c0_2] 33 (0, 0)) (ba BK430) k_ hk_)⟩)) bsz); replace HO_7 := Aside0.mk (Kd.N_elder' (na HO_7) (Kd.N_base ho0) hb); replace BK430 := Aside0.mk (blk_below (g := gb430) (o := .cells #[.int .i64 a0_0, .int .i64 a0_1, .slice A0_2 l0_2.length c0_2] 33 (0, 0)) (ba BK430) hb); replace HB := bst hb))
 go_ret; exact ⟨_, by first | rfl | (simp [errW_none, errW_some] <;> rfl) | (simp only [← hji4]; first | rfl | (simp [errW_none, errW_some] <;> rfl)) | (simp [*, errW_none, errW_some] <;> rfl), Kd.N_mono (na HO436) (fun _ hk => hk.1), bel⟩
theorem FK_of_C2 {w : World} {A : Option Addr} {c : Nat} {xs : List (List Int)} {e : Nat} (h : Kd.C (Kd.slice 3 (Kd.int .i64)) w A xs.length xs) (hc : xs.length ≤ c) : Kd.FK (Kd.slice e (Kd.slice 3 (Kd.int .i64))) w (fun _ => True) xs [.slice A xs.length c] :=
 Kd.FK_slice_mk hc (Kd.F_mono (Kd.C_F (Kd.heap_slice 3 (Kd.heap_int .i64)) h) (fun _ _ => trivial))
theorem made_none {w w' : World} {P M : Int} {Mod : List Int} {e : Ending} (h : MadePost w P M Mod none e w') : e = .returned (.pointer none) ∧ Below w.heap.size w w' := by
 obtain ⟨(⟨_, h2⟩ | ⟨q', e', l', g, h1, _, h2, h3⟩), hb⟩ := h
 ·exact ⟨h2, hb⟩
 cases h1
def AddsPost (a : GFd) (P M : Int) (Mod : List Int) (p q : List (List Int)) : Prop :=
 ∃ k c1 c2 s1 s2 m1 m2, bivariate_Canon.f k a p = some c1 ∧ codewrightref40_Canon.f k P M Mod p = some c2 ∧ codewrightref40_Same.f k c1 c2 = some true ∧ bivariate_Add.f k a p q = some s1 ∧ codewrightref40_Add.f k P M Mod p q = some s2 ∧ codewrightref40_Same.f k s1 s2 = some true ∧ bivariate_Mul.f k a p q = some m1 ∧ codewrightref40_Mul.f k P M Mod p q = some m2 ∧ codewrightref40_Same.f k m1 m2 = some true
def adds.T6 : Bool × List (List Nat × List Nat) := (true, [([], []), ([], []), ([0, 1], [0, 1]), ([], []), ([], []), ([3, 4, 2], [3, 4]), ([2, 5, 5], [2, 5]), ([6, 6], [6]), ([7], [7]), ([7], [7]), ([7], [7]), ([8, 9, 10, 7, 7], [7, 8, 9, 10]), ([7], [7]), ([7], [7]), ([7], [7]), ([12, 13, 14, 11, 7], [7, 12, 13, 14]), ([11, 15, 15, 7], [7, 11, 15]), ([7, 16], [7, 16]), ([17, 16], [17]), ([18], [18]), ([18], [18]), ([18], [18]), ([19, 20, 21, 18, 18], [18, 19, 20, 21]), ([18], [18]), ([18], [18]), ([18], [18]), ([23, 24, 25, 22, 18], [18, 23, 24, 25]), ([22, 26, 26, 18], [18, 22, 26]), ([18, 27], [18, 27]), ([28, 27, 0, 1, 2, 3, 4, 5, 6, 7, 8, 9, 10, 11, 12, 13, 14, 15, 16, 17, 18, 19, 20, 21, 22, 23, 24, 25, 26, 27, 28], [28])])
def adds.B6 : List Nat := [0, 0, 3, 0, 0, 31, 63, 127, 255, 255, 255, 2047, 255, 255, 255, 32767, 65535, 131071, 262143, 524287, 524287, 524287, 4194303, 524287, 524287, 524287, 67108863, 134217727, 268435455, 536870911]
theorem adds.tab6 : rtab .any (opsOf Try.f5 6) = adds.T6 := by kernel_rfl
theorem adds.bits6 : waitsOk adds.T6.2 adds.B6 = true := by kernel_rfl
theorem adds_walk (a0_0 a0_1 : Int) (A0_2 : Option Addr) (c0_2 : Nat) (l0_2 : List Int) (A1 : Option Addr) (c1 : Nat) (l1 : List (List Int)) (A2 : Option Addr) (c2 : Nat) (l2 : List (List Int)) (w : World) (hr0_2 : Kd.C (Kd.int .i64) w A0_2 l0_2.length l0_2) (hc0_2 : l0_2.length ≤ c0_2) (hr1 : Kd.C (Kd.slice 3 (Kd.int .i64)) w A1 l1.length l1) (hc1 : l1.length ≤ c1) (hr2 : Kd.C (Kd.slice 3 (Kd.int .i64)) w A2 l2.length l2) (hc2 : l2.length ≤ c2)
  (km : Nat) (o : Option (Int × List Int × List Int)) (hm : codewrightlaw40_made.f km a0_0 a0_1 l0_2 = some o) (ks : Nat) (s : Bool) (hs : codewrightlaw40_small.f ks [l1, l2] = some s)
  (hP : s = true → ∀ a : GFd, (o = some (a.q, a.exp, a.log) ∧ a.P = a0_0 ∧ a.M = a0_1 ∧ a.Mod = l0_2) → AddsPost a a0_0 a0_1 l0_2 l1 l2) :
  Calls Try.prog 5 #[.agg #[.int .i64 a0_0, .int .i64 a0_1, .slice A0_2 l0_2.length c0_2], .slice A1 l1.length c1, .slice A2 l2.length c2] w fun e w' => e = .returned (.bool true) ∧ Below w.heap.size w w' := by
 have hu33 := Try.underlying33; have HR0_2 := Aside0.mk hr0_2; have HC0_2 := Aside0.mk hc0_2; clear hr0_2 hc0_2; have HR1 := Aside0.mk hr1; have HC1 := Aside0.mk hc1; clear hr1 hc1; have HR2 := Aside0.mk hr2; have HC2 := Aside0.mk hc2; clear hr2 hc2; have HB := Aside0.mk (Below.refl w.heap.size w); cases o with
 | none =>
  clear hP; go_enter Try.func5, Try.ntmps5; go_wp2_with (first | ((with_reducible refine gate_dst (N := 3) rfl ?_); refine bx (cs := #[.int .i64 a0_0, .int .i64 a0_1, .slice A0_2 l0_2.length c0_2]) (t := 33) ?_; intro gb454 hg wB hbox hb; have BK454 := Aside0.mk hbox; have GW454 := Aside0.mk ((by rw [hg]; exact HB.out.size) : w.heap.size ≤ gb454); have HB := Aside0.mk (below_step HB.out hb); clear hb hbox hg) | ((with_reducible refine gate_callee (f := 23) rfl ?_); refine goesL_ (some 8) rfl rfl Try.func23 (by kernel_rfl) rfl #[] rfl (by (try simp only [List.map_toArray, List.map_cons, List.map_nil]); first | done | rfl) ?_; refine (codewrightlaw40_alive.walk _).mono ?_; rintro e wA ⟨rfl, hb⟩; refine ⟨_, rfl, ?_⟩; have BK454 := Aside0.mk (blk_below BK454.out hb); have HB := Aside0.mk (below_step HB.out hb); clear hb; have hcz_0 : wA.cell? ⟨gb454, 0, none⟩ = some (.int .i64 a0_0) := bc BK454 0; have hcz_1 : wA.cell? ⟨gb454, 1, none⟩ = some (.int .i64 a0_1) := bc BK454 1; have hcz_2 : wA.cell? ⟨gb454, 2, none⟩ = some (.slice A0_2 l0_2.length c0_2) := bc BK454 2) | ((with_reducible refine gate_callee (f := 24) rfl ?_); refine goesL_ (some 11) rfl rfl Try.func24 (by kernel_rfl) rfl #[.agg #[.int .i64 a0_0, .int .i64 a0_1, .slice A0_2 l0_2.length c0_2]] rfl (by (try simp only [List.map_toArray, List.map_cons, List.map_nil]); first | done | rfl) ?_; refine (codewrightlaw40_made.calls km a0_0 a0_1 A0_2 c0_2 l0_2 _ _ (Kd.C_below HR0_2.out HB.out) HC0_2.out hm).mono ?_; intro e wM hm_; obtain ⟨rfl, hb⟩ := made_none hm_; refine ⟨_, rfl, ?_⟩; have HB := Aside0.mk (below_step HB.out hb)))
  go_ret; exact ⟨rfl, HB.out⟩
 | some o =>
  obtain ⟨q, ex, lg⟩ := o; cases s with
  | false =>
   clear hP; go_enter Try.func5, Try.ntmps5; go_wp2_with (first | ((with_reducible refine gate_dst (N := 3) rfl ?_); refine bx (cs := #[.int .i64 a0_0, .int .i64 a0_1, .slice A0_2 l0_2.length c0_2]) (t := 33) ?_; intro gb454 hg wB hbox hb; have BK454 := Aside0.mk hbox; have GW454 := Aside0.mk ((by rw [hg]; exact HB.out.size) : w.heap.size ≤ gb454); have HB := Aside0.mk (below_step HB.out hb); clear hb hbox hg) | ((with_reducible refine gate_callee (f := 23) rfl ?_); refine goesL_ (some 8) rfl rfl Try.func23 (by kernel_rfl) rfl #[] rfl (by (try simp only [List.map_toArray, List.map_cons, List.map_nil]); first | done | rfl) ?_; refine (codewrightlaw40_alive.walk _).mono ?_; rintro e wA ⟨rfl, hb⟩; refine ⟨_, rfl, ?_⟩; have BK454 := Aside0.mk (blk_below BK454.out hb); have HB := Aside0.mk (below_step HB.out hb); clear hb; have hcz_0 : wA.cell? ⟨gb454, 0, none⟩ = some (.int .i64 a0_0) := bc BK454 0; have hcz_1 : wA.cell? ⟨gb454, 1, none⟩ = some (.int .i64 a0_1) := bc BK454 1; have hcz_2 : wA.cell? ⟨gb454, 2, none⟩ = some (.slice A0_2 l0_2.length c0_2) := bc BK454 2) | ((with_reducible refine gate_callee (f := 24) rfl ?_); refine goesL_ (some 11) rfl rfl Try.func24 (by kernel_rfl) rfl #[.agg #[.int .i64 a0_0, .int .i64 a0_1, .slice A0_2 l0_2.length c0_2]] rfl (by (try simp only [List.map_toArray, List.map_cons, List.map_nil]); first | done | rfl) ?_; refine (codewrightlaw40_made.calls km a0_0 a0_1 A0_2 c0_2 l0_2 _ _ (Kd.C_below HR0_2.out HB.out) HC0_2.out hm).mono ?_; intro e wM hm_; obtain ⟨g_, rfl, hgf, hb⟩ := made_some hm_; refine ⟨_, rfl, ?_⟩; obtain ⟨a3, ha3⟩ : ∃ a3, a3 = GFd.mk g_ a0_0 a0_1 l0_2 q ex lg := ⟨_, rfl⟩; (rw [show g_ = a3.blk by rw [ha3]]); have HGF3 := Aside0.mk (show GFd.At wM a3 by rw [ha3]; exact hgf); have BK454 := Aside0.mk (blk_below BK454.out hb); have HBw := Aside0.mk (below_step HB.out hb); clear HB hb hm_ hgf; have HR0_2 := Aside0.mk (Kd.C_below HR0_2.out HBw.out); have HRw1 := HR1; have HRw2 := HR2; have HR1 := Aside0.mk (Kd.C_below HR1.out HBw.out); have HR2 := Aside0.mk (Kd.C_below HR2.out HBw.out); have HB := Aside0.mk (Below.refl wM.heap.size wM); have hcz_0 : wM.cell? ⟨gb454, 0, none⟩ = some (.int .i64 a0_0) := bc BK454 0; have hcz_1 : wM.cell? ⟨gb454, 1, none⟩ = some (.int .i64 a0_1) := bc BK454 1; have hcz_2 : wM.cell? ⟨gb454, 2, none⟩ = some (.slice A0_2 l0_2.length c0_2) := bc BK454 2) | ((with_reducible refine gate_dst (N := 17) rfl ?_); (try (refine gate_guard (by rfl) ?_; dsimp only)); refine Kd.N_lit (Kd.slice 31 (Kd.slice 3 (Kd.int .i64))) _ 35 ?hg (N' := 17) ?hd (xs := ([l1, l2] : List (List (List Int)))) (inner := [.slice A1 l1.length c1, .slice A2 l2.length c2]) (ok := fun _ => True) (okp := fun _ => True) ?hr ?hp (fun _ hk => hk) trivial (Below.refl _ _) (Nat.le_refl _) (by simp) ?_; (case hd => rfl); (case hg => rfl); (case hr => first | (go_simp; done) | (go_simp; rfl)); (case hp => exact (Reps.one (show Kd.FK (Kd.slice 31 (Kd.slice 3 (Kd.int .i64))) _ _ l1 [.slice A1 l1.length c1] from FK_of_C2 (Kd.C_below HR1.out HB.out) HC1.out) (Reps.one (show Kd.FK (Kd.slice 31 (Kd.slice 3 (Kd.int .i64))) _ _ l2 [.slice A2 l2.length c2] from FK_of_C2 (Kd.C_below HR2.out HB.out) HC2.out) (Reps.none _ _)))); intro vL wL hoL hb hg_ hnew_; clear hg_ hnew_; have HL := Aside0.mk (Kd.N_V (base' := 0) hoL); have BK454 := Aside0.mk (blk_below BK454.out hb); have HB := Aside0.mk (below_step HB.out hb); clear hoL hb; obtain ⟨AL, cL, rfl⟩ := Kd.V_slice HL.out) | ((with_reducible refine gate_dst (N := 18) rfl ?_); (try (refine gate_guard (by rfl) ?_; dsimp only)); refine goesL_ (some 18) rfl rfl Try.func25 (by kernel_rfl) rfl #[.slice AL 2 cL] rfl (by (try simp only [List.map_toArray, List.map_cons, List.map_nil]); first | done | rfl) ?_; refine (codewrightlaw40_small.calls ks AL cL [l1, l2] false _ (Kd.V_reads' HL.out).2.2 (Kd.V_reads' HL.out).2.1 hs).mono ?_; rintro e wS ⟨rfl, hdr⟩; have hb := hdr.below; refine ⟨_, rfl, ?_⟩; have BK454 := Aside0.mk (blk_below BK454.out hb); have HB := Aside0.mk (below_step HB.out hb); clear hb hdr))
   go_ret; exact ⟨rfl, HBw.out.trans (Below.mono bel HBw.out.size)⟩
  | true =>
   replace hP : ∀ a : GFd, a = GFd.mk a.blk a0_0 a0_1 l0_2 q ex lg → AddsPost a a0_0 a0_1 l0_2 l1 l2 := fun a ha => hP rfl a ⟨by rw [ha], by rw [ha], by rw [ha], by rw [ha]⟩
   go_enter Try.func5, Try.ntmps5; go_wp2_with (first | ((with_reducible refine gate_dst (N := 3) rfl ?_); refine bx (cs := #[.int .i64 a0_0, .int .i64 a0_1, .slice A0_2 l0_2.length c0_2]) (t := 33) ?_; intro gb454 hg wB hbox hb; have BK454 := Aside0.mk hbox; have GW454 := Aside0.mk ((by rw [hg]; exact HB.out.size) : w.heap.size ≤ gb454); have HB := Aside0.mk (below_step HB.out hb); clear hb hbox hg) | ((with_reducible refine gate_callee (f := 23) rfl ?_); refine goesL_ (some 8) rfl rfl Try.func23 (by kernel_rfl) rfl #[] rfl (by (try simp only [List.map_toArray, List.map_cons, List.map_nil]); first | done | rfl) ?_; refine (codewrightlaw40_alive.walk _).mono ?_; rintro e wA ⟨rfl, hb⟩; refine ⟨_, rfl, ?_⟩; have BK454 := Aside0.mk (blk_below BK454.out hb); have HB := Aside0.mk (below_step HB.out hb); clear hb; have hcz_0 : wA.cell? ⟨gb454, 0, none⟩ = some (.int .i64 a0_0) := bc BK454 0; have hcz_1 : wA.cell? ⟨gb454, 1, none⟩ = some (.int .i64 a0_1) := bc BK454 1; have hcz_2 : wA.cell? ⟨gb454, 2, none⟩ = some (.slice A0_2 l0_2.length c0_2) := bc BK454 2) | ((with_reducible refine gate_callee (f := 24) rfl ?_); refine goesL_ (some 11) rfl rfl Try.func24 (by kernel_rfl) rfl #[.agg #[.int .i64 a0_0, .int .i64 a0_1, .slice A0_2 l0_2.length c0_2]] rfl (by (try simp only [List.map_toArray, List.map_cons, List.map_nil]); first | done | rfl) ?_; refine (codewrightlaw40_made.calls km a0_0 a0_1 A0_2 c0_2 l0_2 _ _ (Kd.C_below HR0_2.out HB.out) HC0_2.out hm).mono ?_; intro e wM hm_; obtain ⟨g_, rfl, hgf, hb⟩ := made_some hm_; refine ⟨_, rfl, ?_⟩; obtain ⟨a3, ha3⟩ : ∃ a3, a3 = GFd.mk g_ a0_0 a0_1 l0_2 q ex lg := ⟨_, rfl⟩; (rw [show g_ = a3.blk by rw [ha3]]); have HGF3 := Aside0.mk (show GFd.At wM a3 by rw [ha3]; exact hgf); have BK454 := Aside0.mk (blk_below BK454.out hb); have HBw := Aside0.mk (below_step HB.out hb); clear HB hb hm_ hgf; have HR0_2 := Aside0.mk (Kd.C_below HR0_2.out HBw.out); have HRw1 := HR1; have HRw2 := HR2; have HR1 := Aside0.mk (Kd.C_below HR1.out HBw.out); have HR2 := Aside0.mk (Kd.C_below HR2.out HBw.out); have HB := Aside0.mk (Below.refl wM.heap.size wM); obtain ⟨k, t457, t460, t464, t467, t471, t474, A90, A100, A110, A130, A140, A150, A170, A180, A190⟩ := hP a3 (by rw [ha3]); have A9 := Aside0.mk A90; have A10 := Aside0.mk A100; have A11 := Aside0.mk A110; have A13 := Aside0.mk A130; have A14 := Aside0.mk A140; have A15 := Aside0.mk A150; have A17 := Aside0.mk A170; have A18 := Aside0.mk A180; have A19 := Aside0.mk A190; clear A90 A100 A110 A130 A140 A150 A170 A180 A190; clear ha3; have hcz_0 : wM.cell? ⟨gb454, 0, none⟩ = some (.int .i64 a0_0) := bc BK454 0; have hcz_1 : wM.cell? ⟨gb454, 1, none⟩ = some (.int .i64 a0_1) := bc BK454 1; have hcz_2 : wM.cell? ⟨gb454, 2, none⟩ = some (.slice A0_2 l0_2.length c0_2) := bc BK454 2) | ((with_reducible refine gate_dst (N := 17) rfl ?_); (try (refine gate_guard (by rfl) ?_; dsimp only)); refine Kd.N_lit (Kd.slice 31 (Kd.slice 3 (Kd.int .i64))) _ 35 ?hg (N' := 17) ?hd (xs := ([l1, l2] : List (List (List Int)))) (inner := [.slice A1 l1.length c1, .slice A2 l2.length c2]) (ok := fun _ => True) (okp := fun _ => True) ?hr ?hp (fun _ hk => hk) trivial (Below.refl _ _) (Nat.le_refl _) (by simp) ?_; (case hd => rfl); (case hg => rfl); (case hr => first | (go_simp; done) | (go_simp; rfl)); (case hp => exact (Reps.one (show Kd.FK (Kd.slice 31 (Kd.slice 3 (Kd.int .i64))) _ _ l1 [.slice A1 l1.length c1] from FK_of_C2 (Kd.C_below HR1.out HB.out) HC1.out) (Reps.one (show Kd.FK (Kd.slice 31 (Kd.slice 3 (Kd.int .i64))) _ _ l2 [.slice A2 l2.length c2] from FK_of_C2 (Kd.C_below HR2.out HB.out) HC2.out) (Reps.none _ _)))); intro vL wL hoL hb hg_ hnew_; clear hg_ hnew_; have HL := Aside0.mk (Kd.N_V (base' := 0) hoL); have BK454 := Aside0.mk (blk_below BK454.out hb); have HB := Aside0.mk (below_step HB.out hb); clear hoL hb; obtain ⟨AL, cL, rfl⟩ := Kd.V_slice HL.out) | ((with_reducible refine gate_dst (N := 18) rfl ?_); (try (refine gate_guard (by rfl) ?_; dsimp only)); refine goesL_ (some 18) rfl rfl Try.func25 (by kernel_rfl) rfl #[.slice AL 2 cL] rfl (by (try simp only [List.map_toArray, List.map_cons, List.map_nil]); first | done | rfl) ?_; refine (codewrightlaw40_small.calls ks AL cL [l1, l2] true _ (Kd.V_reads' HL.out).2.2 (Kd.V_reads' HL.out).2.1 hs).mono ?_; rintro e wS ⟨rfl, hdr⟩; have hb := hdr.below; refine ⟨_, rfl, ?_⟩; have BK454 := Aside0.mk (blk_below BK454.out hb); have HB := Aside0.mk (below_step HB.out hb); clear hb hdr))
   refine st_ (S := fun w' => w'.cell? ⟨gb454, 0, none⟩ = some (.int .i64 a0_0) ∧ w'.cell? ⟨gb454, 1, none⟩ = some (.int .i64 a0_1) ∧ w'.cell? ⟨gb454, 2, none⟩ = some (.slice A0_2 l0_2.length c0_2)) (ds := []) 30 adds.tab6 adds.bits6 ⟨(blk_cell (blk_drew BK454.out) 0).trans rfl, (blk_cell (blk_drew BK454.out) 1).trans rfl, (blk_cell (blk_drew BK454.out) 2).trans rfl⟩ fun hHeld HT_ HW_ => ?_
   have BK454 := Aside0.mk (blk_drew BK454.out); have HB := Aside0.mk (below_drew1 HB.out); generalize wS.drew = w23 at BK454 HB hHeld ⊢; refine pu 0 21 (bm 30 1) ?_; refine pu 1 22 (bm 30 3) ?_; refine pu 4 25 (bm 30 19) ?_; refine take_ (i := 3) (N := some 24) (v := ?_) (a' := ?_) (bm 30 27) rfl rfl (take_ofW HT_.out HW_.out (by kernel_rfl)) (fun _ _ _ h => h) (Or.inl ⟨by rfl, ?_⟩) hHeld ?_ ?_; rotate_left
   ·rintro w' ⟨s0, s1, s2⟩; go_simp; with_reducible rfl
   rotate_left
   ·simp only [Act.put, List.setIfInBounds_toArray, List.set_cons_zero, List.set_cons_succ, i64_w, i32_w]; rfl
   refine on 2 23 (bm 30 31) fun K hK => ?_
   refine gs Try.func27 #[.pointer (some ⟨a3.blk, 0, none⟩), .slice A1 l1.length c1] ?_; with_reducible refine (bivariate_Canon.calls k a3 _ _ l1 t457 _ ?side1 ?side2 ?side3 A9.out).mono ?_
   (case side1 => first | exact GFd.At.below HGF3.out bel)
   (case side2 => exact cb HR1)
   (case side3 => exact HC1.out)
   rintro e w24 ⟨v458, rfl, ho0, hb⟩; refine ⟨_, rfl, ?_⟩; have HO459 := Aside0.mk (Kd.V_lower (Kd.V_mono (ok' := fun k_ => k_ ≠ gb454) ho0 (fun k_ hk_ => (Kd.freshB (g := gb454) (o := .cells #[.int .i64 a0_0, .int .i64 a0_1, .slice A0_2 l0_2.length c0_2] 33 (0, 0)) (ba BK454) k_ hk_))) bsz); replace BK454 := Aside0.mk (blk_below (g := gb454) (o := .cells #[.int .i64 a0_0, .int .i64 a0_1, .slice A0_2 l0_2.length c0_2] 33 (0, 0)) (ba BK454) hb); replace HB := bst hb; refine hK.out _ _ ⟨bc BK454 0, bc BK454 1, bc BK454 2⟩ (fun hHeld => ?_); clear hK K; refine nmz 23 ?_; refine on 5 26 (bm 30 63) fun K hK => ?_
   refine gs Try.func28 #[.agg #[.int .i64 a0_0, .int .i64 a0_1, .slice A0_2 l0_2.length c0_2], .slice A1 l1.length c1] ?_; with_reducible refine (codewrightref40_Canon.calls k a0_0 a0_1 _ _ l0_2 _ _ l1 t460 _ ?side1 ?side2 ?side3 ?side4 A10.out).mono ?_
   (case side1 => exact cb HR0_2)
   (case side2 => exact HC0_2.out)
   (case side3 => exact cb HR1)
   (case side4 => exact HC1.out)
   rintro e w25 ⟨v461, rfl, ho0, hb⟩; refine ⟨_, rfl, ?_⟩; replace HO459 := Aside0.mk (Kd.V_elder' (va HO459) (Kd.N_base ho0) hb); have HO462 := Aside0.mk (Kd.N_lower (Kd.N_mono (ok' := fun k_ => k_ ≠ gb454) ho0 (fun k_ hk_ => (Kd.freshB (g := gb454) (o := .cells #[.int .i64 a0_0, .int .i64 a0_1, .slice A0_2 l0_2.length c0_2] 33 (0, 0)) (ba BK454) k_ hk_))) bsz); replace BK454 := Aside0.mk (blk_below (g := gb454) (o := .cells #[.int .i64 a0_0, .int .i64 a0_1, .slice A0_2 l0_2.length c0_2] 33 (0, 0)) (ba BK454) hb); replace HB := bst hb; obtain ⟨Ao26, co26, eo26⟩ := Kd.V_slice HO459.out; (first | subst eo26 | (injection eo26 with f1_ f2_ f3_; have f4_ := f1_.symm; have f5_ := f3_.symm; clear f1_ f2_ f3_; subst f4_; subst f5_))
   obtain ⟨Ao27, co27, eo27⟩ := Kd.N_slice HO462.out; (first | subst eo27 | (injection eo27 with f1_ f2_ f3_; have f4_ := f1_.symm; have f5_ := f3_.symm; clear f1_ f2_ f3_; subst f4_; subst f5_))
   refine hK.out _ _ ⟨bc BK454 0, bc BK454 1, bc BK454 2⟩ (fun hHeld => ?_); clear hK K; refine nmz 26 ?_; refine on 6 27 (bm 30 127) fun K hK => ?_
   refine gs Try.func26 #[.slice Ao26 t457.length co26, .slice Ao27 t460.length co27] ?_; with_reducible refine (codewrightref40_Same.calls k _ _ t457 _ _ t460 true _ ?side1 ?side2 ?side3 ?side4 A11.out).mono ?_
   (case side1 => repeat (first | exact (Kd.V_reads' HO459.out).2.2 | (with_reducible refine Kd.C_alloc ?_ _) | (with_reducible refine Kd.C_drewN ?_ _) | (with_reducible refine Kd.C_drew ?_)))
   (case side2 => exact (Kd.V_reads' HO459.out).2.1)
   (case side3 => repeat (first | exact (Kd.N_reads' HO462.out).2.2 | (with_reducible refine Kd.C_alloc ?_ _) | (with_reducible refine Kd.C_drewN ?_ _) | (with_reducible refine Kd.C_drew ?_)))
   (case side4 => exact (Kd.N_reads' HO462.out).2.1)
   rintro e w' ⟨rfl, ⟨nd, rfl⟩⟩; refine ⟨_, rfl, ?_⟩; refine hK.out _ _ ⟨bc BK454 0, bc BK454 1, bc BK454 2⟩ (fun hHeld => ?_); clear hK K; refine nmz 27 ?_; refine pu 7 28 (bm 30 255) ?_; refine pu 8 29 (bm 30 511) ?_; refine pu 9 30 (bm 30 1023) ?_; refine pu 10 31 (bm 30 2047) ?_; refine pu 13 34 (bm 30 10239) ?_; refine pu 14 35 (bm 30 26623) ?_; refine take_ (i := 12) (N := some 33) (v := ?_) (a' := ?_) (bm 30 30719) rfl rfl (take_ofW HT_.out HW_.out (by kernel_rfl)) (fun _ _ _ h => h) (Or.inl ⟨by rfl, ?_⟩) hHeld ?_ ?_; rotate_left
   ·rintro w' ⟨s0, s1, s2⟩; go_simp; with_reducible rfl
   rotate_left
   ·simp only [Act.put, List.setIfInBounds_toArray, List.set_cons_zero, List.set_cons_succ, i64_w, i32_w]; rfl
   refine on 11 32 (bm 30 32767) fun K hK => ?_
   refine gs Try.func29 #[.pointer (some ⟨a3.blk, 0, none⟩), .slice A1 l1.length c1, .slice A2 l2.length c2] ?_; with_reducible refine (bivariate_Add.calls k a3 _ _ l1 _ _ l2 t464 _ ?side1 ?side2 ?side3 ?side4 ?side5 A13.out).mono ?_
   (case side1 => first | exact GFd.At.below HGF3.out bel)
   (case side2 => repeat (first | exact (Kd.C_below HR1.out bel) | (with_reducible refine Kd.C_alloc ?_ _) | (with_reducible refine Kd.C_drewN ?_ _) | (with_reducible refine Kd.C_drew ?_)))
   (case side3 => exact HC1.out)
   (case side4 => repeat (first | exact (Kd.C_below HR2.out bel) | (with_reducible refine Kd.C_alloc ?_ _) | (with_reducible refine Kd.C_drewN ?_ _) | (with_reducible refine Kd.C_drew ?_)))
   (case side5 => exact HC2.out)
   rintro e w28 ⟨v465, rfl, ho0, hb⟩; refine ⟨_, rfl, ?_⟩; replace HO459 := Aside0.mk (Kd.V_below (va HO459) hb); have HO466 := Aside0.mk (Kd.V_lower (Kd.V_mono (ok' := fun k_ => some k_ ≠ (.slice Ao27 t460.length co27 : Value).ownBlock ∧ k_ ≠ gb454) ho0 (fun k_ hk_ => ⟨(Kd.fresh' (Kd.N_lt (na HO462)) k_ hk_), (Kd.freshB (g := gb454) (o := .cells #[.int .i64 a0_0, .int .i64 a0_1, .slice A0_2 l0_2.length c0_2] 33 (0, 0)) (ba BK454) k_ hk_)⟩)) bsz); replace HO462 := Aside0.mk (Kd.N_below (na HO462) hb); replace BK454 := Aside0.mk (blk_below (g := gb454) (o := .cells #[.int .i64 a0_0, .int .i64 a0_1, .slice A0_2 l0_2.length c0_2] 33 (0, 0)) (ba BK454) hb); replace HB := bst hb; refine hK.out _ _ ⟨bc BK454 0, bc BK454 1, bc BK454 2⟩ (fun hHeld => ?_); clear hK K; refine nmz 32 ?_; refine on 15 36 (bm 30 65535) fun K hK => ?_
   refine gs Try.func30 #[.agg #[.int .i64 a0_0, .int .i64 a0_1, .slice A0_2 l0_2.length c0_2], .slice A1 l1.length c1, .slice A2 l2.length c2] ?_; with_reducible refine (codewrightref40_Add.calls k a0_0 a0_1 _ _ l0_2 (fun k_ => k_ < w.heap.size) _ _ l1 (fun k_ => k_ < w.heap.size) _ _ l2 t467 _ ?side1 ?side2 ?side3 ?side4 A14.out).mono ?_
   (case side1 => exact cb HR0_2)
   (case side2 => exact HC0_2.out)
   (case side3 => exact Kd.V_mk HC1.out (Kd.F_below (Kd.C_F (Kd.heap_slice 3 (Kd.heap_int .i64)) HRw1.out) (HBw.out.trans (Below.mono bel HBw.out.size))))
   (case side4 => exact Kd.V_mk HC2.out (Kd.F_below (Kd.C_F (Kd.heap_slice 3 (Kd.heap_int .i64)) HRw2.out) (HBw.out.trans (Below.mono bel HBw.out.size))))
   rintro e w29 ⟨v468, rfl, ho0, hb⟩; refine ⟨_, rfl, ?_⟩; replace HO459 := Aside0.mk (Kd.V_elder' (va HO459) (Kd.N_base ho0) hb); replace HO466 := Aside0.mk (Kd.V_elder' (va HO466) (Kd.N_base ho0) hb); have HO469 := Aside0.mk (Kd.N_lower (Kd.N_mono (ok' := fun k_ => some k_ ≠ (.slice Ao27 t460.length co27 : Value).ownBlock ∧ k_ ≠ gb454) ho0 (fun k_ hk_ => ⟨Or.elim hk_ (fun hs_ => Or.elim hs_ (fun hs_ => fun e_ => Nat.not_le.2 hs_ (Nat.le_trans HBw.out.size (Kd.N_base HO462.out k_ e_.symm))) (fun hs_ => fun e_ => Nat.not_le.2 hs_ (Nat.le_trans HBw.out.size (Kd.N_base HO462.out k_ e_.symm)))) (fun hn_ => (Kd.fresh' (Kd.N_lt (na HO462)) k_ hn_)), Or.elim hk_ (fun hs_ => Or.elim hs_ (fun hs_ => fun e_ => Nat.not_le.2 hs_ (by rw [e_]; exact GW454.out)) (fun hs_ => fun e_ => Nat.not_le.2 hs_ (by rw [e_]; exact GW454.out))) (fun hn_ => (Kd.freshB (g := gb454) (o := .cells #[.int .i64 a0_0, .int .i64 a0_1, .slice A0_2 l0_2.length c0_2] 33 (0, 0)) (ba BK454) k_ hn_))⟩)) bsz)
   replace HO462 := Aside0.mk (Kd.N_elder' (na HO462) (Kd.N_base ho0) hb); replace BK454 := Aside0.mk (blk_below (g := gb454) (o := .cells #[.int .i64 a0_0, .int .i64 a0_1, .slice A0_2 l0_2.length c0_2] 33 (0, 0)) (ba BK454) hb); replace HB := bst hb; obtain ⟨Ao30, co30, eo30⟩ := Kd.V_slice HO466.out; (first | subst eo30 | (injection eo30 with f1_ f2_ f3_; have f4_ := f1_.symm; have f5_ := f3_.symm; clear f1_ f2_ f3_; subst f4_; subst f5_))
   obtain ⟨Ao31, co31, eo31⟩ := Kd.N_slice HO469.out; (first | subst eo31 | (injection eo31 with f1_ f2_ f3_; have f4_ := f1_.symm; have f5_ := f3_.symm; clear f1_ f2_ f3_; subst f4_; subst f5_))
   refine hK.out _ _ ⟨bc BK454 0, bc BK454 1, bc BK454 2⟩ (fun hHeld => ?_); clear hK K; refine nmz 36 ?_; refine on 16 37 (bm 30 131071) fun K hK => ?_
   refine gs Try.func26 #[.slice Ao30 t464.length co30, .slice Ao31 t467.length co31] ?_; with_reducible refine (codewrightref40_Same.calls k _ _ t464 _ _ t467 true _ ?side1 ?side2 ?side3 ?side4 A15.out).mono ?_
   (case side1 => repeat (first | exact (Kd.V_reads' HO466.out).2.2 | (with_reducible refine Kd.C_alloc ?_ _) | (with_reducible refine Kd.C_drewN ?_ _) | (with_reducible refine Kd.C_drew ?_)))
   (case side2 => exact (Kd.V_reads' HO466.out).2.1)
   (case side3 => repeat (first | exact (Kd.N_reads' HO469.out).2.2 | (with_reducible refine Kd.C_alloc ?_ _) | (with_reducible refine Kd.C_drewN ?_ _) | (with_reducible refine Kd.C_drew ?_)))
   (case side4 => exact (Kd.N_reads' HO469.out).2.1)
   rintro e w' ⟨rfl, ⟨nd, rfl⟩⟩; refine ⟨_, rfl, ?_⟩; refine hK.out _ _ ⟨bc BK454 0, bc BK454 1, bc BK454 2⟩ (fun hHeld => ?_); clear hK K; refine nmz 37 ?_; refine pu 17 38 (bm 30 262143) ?_; refine pu 18 39 (bm 30 524287) ?_; refine pu 19 40 (bm 30 1048575) ?_; refine pu 20 41 (bm 30 2097151) ?_; refine pu 21 42 (bm 30 4194303) ?_; refine pu 24 45 (bm 30 20971519) ?_; refine pu 25 46 (bm 30 54525951) ?_; refine take_ (i := 23) (N := some 44) (v := ?_) (a' := ?_) (bm 30 62914559) rfl rfl (take_ofW HT_.out HW_.out (by kernel_rfl)) (fun _ _ _ h => h) (Or.inl ⟨by rfl, ?_⟩) hHeld ?_ ?_; rotate_left
   ·rintro w' ⟨s0, s1, s2⟩; go_simp; with_reducible rfl
   rotate_left
   ·simp only [Act.put, List.setIfInBounds_toArray, List.set_cons_zero, List.set_cons_succ, i64_w, i32_w]; rfl
   refine on 22 43 (bm 30 67108863) fun K hK => ?_
   refine gs Try.func31 #[.pointer (some ⟨a3.blk, 0, none⟩), .slice A1 l1.length c1, .slice A2 l2.length c2] ?_; with_reducible refine (bivariate_Mul.calls k a3 _ _ l1 _ _ l2 t471 _ ?side1 ?side2 ?side3 ?side4 ?side5 A17.out).mono ?_
   (case side1 => first | exact GFd.At.below HGF3.out bel)
   (case side2 => repeat (first | exact (Kd.C_below HR1.out bel) | (with_reducible refine Kd.C_alloc ?_ _) | (with_reducible refine Kd.C_drewN ?_ _) | (with_reducible refine Kd.C_drew ?_)))
   (case side3 => exact HC1.out)
   (case side4 => repeat (first | exact (Kd.C_below HR2.out bel) | (with_reducible refine Kd.C_alloc ?_ _) | (with_reducible refine Kd.C_drewN ?_ _) | (with_reducible refine Kd.C_drew ?_)))
   (case side5 => exact HC2.out)
   rintro e w32 ⟨v472, rfl, ho0, hb⟩; refine ⟨_, rfl, ?_⟩; replace HO459 := Aside0.mk (Kd.V_below (va HO459) hb); replace HO466 := Aside0.mk (Kd.V_below (va HO466) hb); have HO473 := Aside0.mk (Kd.V_lower (Kd.V_mono (ok' := fun k_ => some k_ ≠ (.slice Ao27 t460.length co27 : Value).ownBlock ∧ some k_ ≠ (.slice Ao31 t467.length co31 : Value).ownBlock ∧ k_ ≠ gb454) ho0 (fun k_ hk_ => ⟨(Kd.fresh' (Kd.N_lt (na HO462)) k_ hk_), (Kd.fresh' (Kd.N_lt (na HO469)) k_ hk_), (Kd.freshB (g := gb454) (o := .cells #[.int .i64 a0_0, .int .i64 a0_1, .slice A0_2 l0_2.length c0_2] 33 (0, 0)) (ba BK454) k_ hk_)⟩)) bsz); replace HO462 := Aside0.mk (Kd.N_below (na HO462) hb); replace HO469 := Aside0.mk (Kd.N_below (na HO469) hb); replace BK454 := Aside0.mk (blk_below (g := gb454) (o := .cells #[.int .i64 a0_0, .int .i64 a0_1, .slice A0_2 l0_2.length c0_2] 33 (0, 0)) (ba BK454) hb); replace HB := bst hb; refine hK.out _ _ ⟨bc BK454 0, bc BK454 1, bc BK454 2⟩ (fun hHeld => ?_); clear hK K; refine nmz 43 ?_; refine on 26 47 (bm 30 134217727) fun K hK => ?_
   refine gs Try.func32 #[.agg #[.int .i64 a0_0, .int .i64 a0_1, .slice A0_2 l0_2.length c0_2], .slice A1 l1.length c1, .slice A2 l2.length c2] ?_; with_reducible refine (codewrightref40_Mul.calls k a0_0 a0_1 _ _ l0_2 _ _ l1 _ _ l2 t474 _ ?side1 ?side2 ?side3 ?side4 ?side5 ?side6 A18.out).mono ?_
   (case side1 => exact cb HR0_2)
   (case side2 => exact HC0_2.out)
   (case side3 => exact cb HR1)
   (case side4 => exact HC1.out)
   (case side5 => exact cb HR2)
   (case side6 => exact HC2.out)
   rintro e w33 ⟨v475, rfl, ho0, hb⟩; refine ⟨_, rfl, ?_⟩; replace HO459 := Aside0.mk (Kd.V_elder' (va HO459) (Kd.N_base ho0) hb); replace HO466 := Aside0.mk (Kd.V_elder' (va HO466) (Kd.N_base ho0) hb); replace HO473 := Aside0.mk (Kd.V_elder' (va HO473) (Kd.N_base ho0) hb); have HO476 := Aside0.mk (Kd.N_lower (Kd.N_mono (ok' := fun k_ => some k_ ≠ (.slice Ao27 t460.length co27 : Value).ownBlock ∧ some k_ ≠ (.slice Ao31 t467.length co31 : Value).ownBlock ∧ k_ ≠ gb454) ho0 (fun k_ hk_ => ⟨(Kd.fresh' (Kd.N_lt (na HO462)) k_ hk_), (Kd.fresh' (Kd.N_lt (na HO469)) k_ hk_), (Kd.freshB (g := gb454) (o := .cells #[.int .i64 a0_0, .int .i64 a0_1, .slice A0_2 l0_2.length c0_2] 33 (0, 0)) (ba BK454) k_ hk_)⟩)) bsz); replace HO462 := Aside0.mk (Kd.N_elder' (na HO462) (Kd.N_base ho0) hb); replace HO469 := Aside0.mk (Kd.N_elder' (na HO469) (Kd.N_base ho0) hb); replace BK454 := Aside0.mk (blk_below (g := gb454) (o := .cells #[.int .i64 a0_0, .int .i64 a0_1, .slice A0_2 l0_2.length c0_2] 33 (0, 0)) (ba BK454) hb); replace HB := bst hb; obtain ⟨Ao34, co34, eo34⟩ := Kd.V_slice HO473.out; (first | subst eo34 | (injection eo34 with f1_ f2_ f3_; have f4_ := f1_.symm; have f5_ := f3_.symm; clear f1_ f2_ f3_; subst f4_; subst f5_))
   obtain ⟨Ao35, co35, eo35⟩ := Kd.N_slice HO476.out; (first | subst eo35 | (injection eo35 with f1_ f2_ f3_; have f4_ := f1_.symm; have f5_ := f3_.symm; clear f1_ f2_ f3_; subst f4_; subst f5_))
   refine hK.out _ _ ⟨bc BK454 0, bc BK454 1, bc BK454 2⟩ (fun hHeld => ?_); clear hK K; refine nmz 47 ?_; refine on 27 48 (bm 30 268435455) fun K hK => ?_
   refine gs Try.func26 #[.slice Ao34 t471.length co34, .slice Ao35 t474.length co35] ?_; with_reducible refine (codewrightref40_Same.calls k _ _ t471 _ _ t474 true _ ?side1 ?side2 ?side3 ?side4 A19.out).mono ?_
   (case side1 => repeat (first | exact (Kd.V_reads' HO473.out).2.2 | (with_reducible refine Kd.C_alloc ?_ _) | (with_reducible refine Kd.C_drewN ?_ _) | (with_reducible refine Kd.C_drew ?_)))
   (case side2 => exact (Kd.V_reads' HO473.out).2.1)
   (case side3 => repeat (first | exact (Kd.N_reads' HO476.out).2.2 | (with_reducible refine Kd.C_alloc ?_ _) | (with_reducible refine Kd.C_drewN ?_ _) | (with_reducible refine Kd.C_drew ?_)))
   (case side4 => exact (Kd.N_reads' HO476.out).2.1)
   rintro e w' ⟨rfl, ⟨nd, rfl⟩⟩; refine ⟨_, rfl, ?_⟩; refine hK.out _ _ ⟨bc BK454 0, bc BK454 1, bc BK454 2⟩ (fun hHeld => ?_); clear hK K; refine nmz 48 ?_; refine pu 28 49 (bm 30 536870911) ?_; refine pu 29 6 (bm 30 1073741823) ?_; refine dn ?_; try go_wp2
   go_ret; exact ⟨rfl, HBw.out.trans (Below.mono bel HBw.out.size)⟩
end Go.Proofs.Ytgjphmcofmkmfaa.G
namespace Go.Proofs.Ytgjphmcofmkmfaa.G
open Go.ChangeShapes Go.WideShapes Go.ChangeAt Go.RowKit Go.Deep
open Go.Proofs.YtgjphmcofmkmfaaW.PrintWords Go.Proofs.YtgjphmcofmkmfaaW.PrintLast Go.Proofs.YtgjphmcofmkmfaaW.PrintMore
set_option linter.unusedVariables false
theorem C_cells {W : World} {a : Addr} {n : Nat} {zs : List Int} (hn : n ≤ zs.length) (hm : n ≤ maxLen) (hcell : ∀ i, i < n → W.cell? (a.add i) = some (.int .i64 (zs.getD i 0))) : Kd.C (Kd.int .i64) W (some a) (zs.take n).length (zs.take n) := by
 have hl : (zs.take n).length = n := by rw [List.length_take]; omega
 refine ⟨rfl, by rw [hl]; exact hm, fun _ => ⟨a, rfl, fun j p hj => ⟨[.int .i64 p], rfl, rfl, fun i u hu => ?_⟩⟩⟩
 cases i with
 | succ i => simp at hu
 | zero =>
  simp at hu
  subst hu; have hj' : j < n := by have := (List.getElem?_eq_some_iff.1 hj).1; omega
  have := hcell j hj'; rw [show j * (Kd.int .i64).sz + 0 = j from Nat.mul_one j]; rw [this, List.getD_eq_getElem?_getD]; rw [List.getElem?_take_of_lt hj'] at hj; rw [hj]; rfl
theorem in_ints {H : Type} {enc : TypeId × Value → H} {W : World} {fuel : Nat} {a0 : Option Addr} {len cap : Nat} {x : DataW H × List MemPlace} (h : DataW.trod enc Try.prog W 0 (fun _ => true) true fuel 31 [.slice a0 len cap] = some x) :
  ∃ l : List Int, len = l.length ∧ l.length ≤ cap ∧ Kd.C (Kd.int .i64) W a0 l.length l := by
 rcases open_ints Try.underlying31 Try.underlying3 (by kernel_rfl) h with ⟨hcs, _⟩ | ⟨a, l', c', zs, hcs, _, hl, hm, hz, _, hcell, _⟩
 ·simp at hcs
  obtain ⟨rfl, rfl, rfl⟩ := hcs; exact ⟨[], rfl, Nat.le_refl _, Kd.C_nil _ _⟩
 simp at hcs
 obtain ⟨rfl, rfl, rfl⟩ := hcs; simp only [if_true] at hz; refine ⟨zs.take len, by rw [List.length_take]; omega, by rw [List.length_take]; omega, C_cells (by omega) (by omega) (fun i hi => hcell i (by omega))⟩
theorem in_rows {H : Type} {enc : TypeId × Value → H} {W : World} {fuel : Nat} {t : TypeId} (ht : Try.prog.underlying t = some (.slice 31)) {a0 : Option Addr} {len cap : Nat} {x : DataW H × List MemPlace} (h : DataW.trod enc Try.prog W 0 (fun _ => true) true fuel t [.slice a0 len cap] = some x) :
  ∃ l : List (List Int), len = l.length ∧ l.length ≤ cap ∧ Kd.C (Kd.slice 3 (Kd.int .i64)) W a0 l.length l := by
 rcases open_int_rows ht Try.underlying31 Try.underlying3 (by kernel_rfl) (by kernel_rfl) h with ⟨hcs, _⟩ | ⟨a, l', c', A, L, C, Z, hcs, _, hl, hm, _, hrow⟩
 ·simp at hcs
  obtain ⟨rfl, rfl, rfl⟩ := hcs; exact ⟨[], rfl, Nat.le_refl _, Kd.C_nil _ _⟩
 simp at hcs
 obtain ⟨rfl, rfl, rfl⟩ := hcs; refine ⟨(List.range len).map fun r => (Z r).take (L r), by simp, by simp; omega, ?_⟩
 have hlen : ((List.range len).map fun r => (Z r).take (L r)).length = len := by simp
 refine ⟨rfl, by rw [hlen]; simp only [maxLen] at hm; omega, fun _ => ⟨a, rfl, fun j p hj => ?_⟩⟩
 rw [List.getElem?_map, Option.map_eq_some_iff] at hj; obtain ⟨r, hr, rfl⟩ := hj; obtain ⟨hjl, hr⟩ := List.getElem?_eq_some_iff.1 hr; simp at hjl hr
 subst hr; obtain ⟨h1, h2, h3, h4, h5, h6, h7⟩ := hrow j (by omega); have hzl : ((Z j).take (L j)).length = L j := by rw [List.length_take]; omega
 refine ⟨[.slice (A j) (L j) (C j)], rfl, ?_, fun i u hu => ?_⟩
 ·refine ⟨A j, C j, by rw [hzl], by rw [hzl]; exact h2, ?_⟩
  cases hA : A j with
  | none =>
   have h0 := h6 hA; have hz0 : (Z j).take (L j) = [] := by
    rw [List.take_eq_nil_iff]; left; omega
   rw [hz0]; exact Kd.C_nil _ _
  | some a' => exact C_cells (by omega) (by omega) (fun i hi => (h7 a' hA).2 i (by omega))
 cases i with
 | succ i => simp at hu
 | zero =>
  simp at hu
  subst hu; rw [show j * (Kd.slice 3 (Kd.int .i64)).sz + 0 = j from Nat.mul_one j]; exact h1
set_option maxRecDepth 100000 in
theorem in_bi {H : Type} {enc : TypeId × Value → H} {W : World} {v : Value} {d : DataW H} {p : List MemPlace} (hval : Value.okWide Try.prog W .any 0 35 v) (h : DataW.Trod enc Try.prog W 0 (fun _ => true) true 35 v d p) :
  ∃ A l c, v = .slice A (l : List (List Int)).length c ∧ l.length ≤ c ∧ Kd.C (Kd.slice 3 (Kd.int .i64)) W A l.length l := by
 obtain ⟨a0, len, cap, rfl⟩ := okWide_slice Try.underlying35 hval; obtain ⟨fuel, hf⟩ := h; obtain ⟨l, rfl, hc, hC⟩ := in_rows Try.underlying35 hf; exact ⟨a0, l, cap, rfl, hc, hC⟩
set_option maxRecDepth 100000 in
theorem in_field {H : Type} {enc : TypeId × Value → H} {W : World} {v : Value} {d : DataW H} {p : List MemPlace} (hval : Value.okWide Try.prog W .any 0 33 v) (h : DataW.Trod enc Try.prog W 0 (fun _ => true) true 33 v d p) :
  ∃ P M A l c, v = .agg #[.int .i64 P, .int .i64 M, .slice A (l : List Int).length c] ∧ l.length ≤ c ∧ Kd.C (Kd.int .i64) W A l.length l ∧ (Lit.int .i64 P).wf = true ∧ (Lit.int .i64 M).wf = true := by
 obtain ⟨cs, rfl, hsz⟩ := okWide_struct Try.underlying33 hval; have hsz3 : cs.size = 3 := hsz.trans (by kernel_rfl); obtain ⟨c0, c1, c2, rfl⟩ : ∃ c0 c1 c2, cs = #[c0, c1, c2] := by
  obtain ⟨l⟩ := cs; match l, hsz3 with
  | [c0, c1, c2], _ => exact ⟨c0, c1, c2, rfl⟩
 obtain ⟨fuel, hf⟩ := h; obtain ⟨y0, y1, y2, n, _, _, h0, h1, h2⟩ := trod_struct3 Try.underlying33 hf; have e1 : Try.prog.cellsOf 3 = 1 := by kernel_rfl
 have e2 : Try.prog.cellsOf 31 = 1 := by kernel_rfl
 simp only [e1, e2] at h0 h1 h2; replace h0 : DataW.trod enc Try.prog W 0 (fun _ => true) true n 3 [c0] = some y0 := h0; replace h1 : DataW.trod enc Try.prog W 0 (fun _ => true) true n 3 [c1] = some y1 := h1; replace h2 : DataW.trod enc Try.prog W 0 (fun _ => true) true n 31 [c2] = some y2 := h2; obtain ⟨P, hP, _, wP⟩ := DataW.trod_int Try.underlying3 h0; obtain ⟨M, hM, _, wM⟩ := DataW.trod_int Try.underlying3 h1; obtain rfl : c0 = _ := (List.cons.inj hP).1; obtain rfl : c1 = _ := (List.cons.inj hM).1; have hs : ∃ a len cap, c2 = .slice a len cap := by
  rcases open_ints Try.underlying31 Try.underlying3 (by kernel_rfl) h2 with ⟨hcs, _⟩ | ⟨a, l', c', zs, hcs, _⟩
  ·exact ⟨_, _, _, (List.cons.inj hcs).1⟩
  exact ⟨_, _, _, (List.cons.inj hcs).1⟩
 obtain ⟨a, len, cap, rfl⟩ := hs; obtain ⟨l, rfl, hc, hC⟩ := in_ints h2; exact ⟨P, M, a, l, cap, rfl, hc, hC, wP, wM⟩
theorem reads_on {H : Type} {enc : TypeId × Value → H} (hl : laidOutB Try.prog = true) {W W' : World} (hb : Below W.heap.size W W') : ∀ {ts : List TypeId} {vs : List Value} {ds : List (DataW H)} {ps : List MemPlace},
  (∀ t ∈ ts, Try.prog.readableRec t = true ∧ t < Try.prog.types.size) → DataW.TrodAll enc Try.prog W 0 (fun _ => true) true ts vs ds ps → DataW.TrodAll enc Try.prog W' 0 (fun b => decide (b < W.heap.size)) true ts vs ds ps
 | [], [], [], _, _, h => h
 | _ :: _, _ :: _, _ :: _, _, ht, ⟨p, q, h, hs, e⟩ => ⟨p, q, Below.trod hl (ht _ List.mem_cons_self).1 (ht _ List.mem_cons_self).2 h hb (by obtain ⟨m, hm⟩ := h; exact DataW.trod_lt m _ _ _ hm), reads_on hl hb (fun t h' => ht t (List.mem_cons_of_mem _ h')) hs, e⟩
end Go.Proofs.Ytgjphmcofmkmfaa.G
