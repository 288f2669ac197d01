/- Part 3 of the proof that the statement holds: the walks of the functions that the law reaches, and the plain law. -/
import Derived.Test.YtgjphmcofmkmfaaMB2
import Derived.Laws.CopyOwn
import Derived.Deep.RegionLaw
import Derived.Lib.SliceRun
namespace Go.Proofs.Ytgjphmcofmkmfaa.G
open Go.RowKit Go.Proofs.YtgjphmcofmkmfaaW.PrintWords Go.Proofs.YtgjphmcofmkmfaaW.PrintLast Go.Proofs.YtgjphmcofmkmfaaW.PrintMore
set_option linter.unusedVariables false
theorem grown_setRow {w : World} {g : Nat} (cs : Array Value) : w.grownBy (w.setRow g cs) (some g) :=
 ⟨rfl, rfl, rfl, by simp [World.setRow], fun k hk hne => setRow_other w g k cs (fun h => hne (by rw [h]))⟩
theorem step_copy_g {P : Program} {ops : Array Oper} {o : Oper} {a : Act} {w : World} {K : Act → World → Prop} {Q : Exit → Act → World → Prop} {E : Prop} (hgd : o.guard = none) (d s : Operand) (dT sT : TypeId)
  (ho : o.op = .call { callee := .builtin .copy, args := #[d, s], argTypes := #[dT, sT] }) (elem : TypeId) (hu : P.underlying dT = some (.slice elem)) (hsz : (P.info? elem).map (·.size) = some 1)
  (dp sp : Option Addr) (dLen dCap sLen sCap : Nat) (hd : a.eval d = .slice dp dLen dCap) (hs : a.eval s = .slice sp sLen sCap)
  (g off : Nat) (cur : List Value) (t : TypeId) (hg : w.heap[g]? = some (.cells cur.toArray t (0, 0))) (cs : List Value) (hn : cs.length = Nat.min sLen dLen)
  (hpos : 0 < cs.length → dp = some ⟨g, off, none⟩ ∧ ∃ ad, sp = some ad ∧ ∀ j v, cs[j]? = some v → w.cell? (ad.add j) = some v)
  (hfit : off + cs.length ≤ cur.length) (h1 : ∀ v ∈ cs, v.oneCell' = true)
  (h : ∀ w', RowKit.Hid (w'.heap[g]? = some (.cells (splice cur off cs).toArray t (0, 0))) → w.grownBy w' (some g) → K (a.put o.dst (goInt cs.length)) w') :
  if Region.wanted o (yielded ops a.tmps) = true then Oper.wp P o a w K Q else E := by
 have hw : Region.wanted o (yielded ops a.tmps) = true := by simp [Region.wanted, hgd]
 rw [if_pos hw]
 by_cases h0 : cs.length = 0
 ·obtain rfl : cs = [] := List.eq_nil_of_length_eq_zero h0; have hrun := run_copy_none (P := P) w dT sT o.type elem dp sp dLen dCap sLen sCap hu hsz (by simpa using hn.symm); unfold Oper.wp; simp [execOp, ho, resolve, invoke, builtin, hd, hs, hrun, Result.andThen]
  exact h w (show _ = _ by simpa [splice] using hg) ⟨rfl, rfl, rfl, Nat.le_refl _, fun _ _ _ => rfl⟩
 obtain ⟨rfl, ad, rfl, hsrc⟩ := hpos (by omega); have hrun := run_copy_row (P := P) w dT sT o.type elem g off dLen dCap ad sLen sCap cur.toArray t cs hu hsz hg hn hsrc (by simpa using hfit) h1; unfold Oper.wp; simp [execOp, ho, resolve, invoke, builtin, hd, hs, hrun, Result.andThen]
 exact h _ (show _ = _ by simpa [splice] using setRow_heap w g _ _ t _ hg) (grown_setRow _)
theorem row_cur {W : World} {base g cap : Nat} {ok : Nat → Prop} {xs : List Int} (h : Kd.R (Kd.int .i64) 3 W base ok (.slice (some ⟨g, 0, none⟩) xs.length cap) xs) :
  ∃ cur : List Value, W.heap[g]? = some (.cells cur.toArray 3 (0, 0)) ∧ xs.length ≤ cur.length ∧ cur.take xs.length = xs.map (Value.int .i64) ∧ base ≤ g ∧ xs.length ≤ cap ∧ cap ≤ maxLen ∧ cur.length = cap := by
 have ho := Kd.own_of_R h; rcases ho.2 with ⟨h1, h2⟩ | ⟨g', cap', cur, h1, h2, h3, h4, h5, h6, h7⟩
 ·cases h1
 injection h1 with a1 a2 a3
 injection a1 with a1
 injection a1 with a1
 subst a1 a3; refine ⟨cur.toList, h3, ?_, ?_, h2, h4, h5, ?_⟩
 ·simp only [Array.length_toList]; omega
 ·rw [Nat.mul_one] at h7; exact h7
 simp only [Array.length_toList]; omega
theorem splice_get {α : Type} (L cs : List α) (off i : Nat) (h : off + cs.length ≤ L.length) : (splice L off cs)[i]? = if i < off then L[i]? else if i < off + cs.length then cs[i - off]? else L[i]? := by
 unfold splice; have e : (List.take off L).length = off := by rw [List.length_take]; omega
 by_cases h1 : i < off
 ·rw [if_pos h1, List.getElem?_append_left (by omega), List.getElem?_take, if_pos h1]
 rw [if_neg h1, List.getElem?_append_right (by omega), e]
 by_cases h2 : i < off + cs.length
 ·rw [if_pos h2, List.getElem?_append_left (by omega)]
 rw [if_neg h2, List.getElem?_append_right (by omega), List.getElem?_drop]; congr 1; omega
theorem row_splice {W w' : World} {base g cap off : Nat} {ok : Nat → Prop} {xs ys : List Int} {cur : List Value} (h : Kd.R (Kd.int .i64) 3 W base ok (.slice (some ⟨g, 0, none⟩) xs.length cap) xs)
  (hc : W.heap[g]? = some (.cells cur.toArray 3 (0, 0))) (hfit : off + ys.length ≤ xs.length) (hh : w'.heap[g]? = some (.cells (splice cur off (ys.map (Value.int .i64))).toArray 3 (0, 0))) :
  Kd.R (Kd.int .i64) 3 w' base ok (.slice (some ⟨g, 0, none⟩) xs.length cap) (splice xs off ys) := by
 obtain ⟨cur', hc', hl, ht, hb, hcap, hmax, hlc⟩ := row_cur h; rw [hc] at hc'; injection hc' with hc'
 injection hc' with hc' _ _
 have hcc : cur = cur' := by simpa using hc'
 subst hcc; have hlen : (splice xs off ys).length = xs.length := length_splice _ _ _ hfit; have hlen2 : (splice cur off (ys.map (Value.int .i64))).length = cur.length := length_splice _ _ _ (by simp; omega)
 rw [← hlen]; refine Kd.R_of_own ⟨by simp [encs], .inr ⟨g, cap, (splice cur off (ys.map (Value.int .i64))).toArray, rfl, hb, hh, by omega, hmax, ?_, ?_⟩⟩ (by intro k hk; exact h.1 k hk)
 ·simp only [List.size_toArray, Nat.mul_one]; omega
 show List.take ((splice xs off ys).length * 1) (splice cur off (ys.map (Value.int .i64))) = List.map (Value.int .i64) (splice xs off ys)
 rw [Nat.mul_one, hlen]; apply List.ext_getElem?
 intro i; have hti : ∀ j, j < xs.length → cur[j]? = (xs[j]?).map (Value.int .i64) := fun j hj => by
  have := congrArg (fun l => l[j]?) ht; simp only [List.getElem?_map] at this; rw [← this, List.getElem?_take, if_pos hj]
 by_cases hi : i < xs.length
 ·rw [List.getElem?_take, if_pos hi, List.getElem?_map]; rw [splice_get _ _ _ _ (by simp; omega), splice_get _ _ _ _ hfit, List.length_map, List.getElem?_map]
  split
  ·exact hti i hi
  split
  ·rfl
  exact hti i hi
 rw [List.getElem?_eq_none (by simp; omega), List.getElem?_eq_none (by simp; omega)]
theorem cut_one {P : Program} (t e : TypeId) {i : TypeInfo} (ht : P.underlying t = some (.slice e)) (hi : P.info? e = some i) (hsz : i.size = 1) (g n c : Nat) (h1 : 1 ≤ n) (hc : n ≤ c) :
  ∃ dp : Option Addr, (1 < n → dp = some ⟨g, 1, none⟩) ∧ ∀ W : World, (Instr.slice t (.slice (some ⟨g, 0, none⟩) n c) (some (.int .i64 1)) none none).run P W = .ok (.slice dp (n - 1) (c - 1)) W := by
 refine ⟨if c = (1 : Int).toNat then some ⟨g, 0, none⟩ else (some ⟨g, 0, none⟩ : Option Addr).map (·.add ((1 : Int).toNat * 1)), fun h => ?_, fun W => ?_⟩
 ·rw [if_neg (show ¬ c = (1 : Int).toNat from by simp; omega)]
  show some ((⟨g, 0, none⟩ : Addr).add 1) = _
  rw [add_plain]
 exact cut_from t e .i64 ht hi 1 hsz (some ⟨g, 0, none⟩) n c 1 (by omega) (by omega) W
theorem copy_src {W : World} {base g cap : Nat} {ok : Nat → Prop} {xs ys : List Int} (h : Kd.R (Kd.int .i64) 3 W base ok (.slice (some ⟨g, 0, none⟩) xs.length cap) xs) {m : Nat} (hm : m ≤ xs.length) (hy : ys = xs.take m) :
  ∀ j v, (ys.map (Value.int .i64))[j]? = some v → W.cell? ((⟨g, 0, none⟩ : Addr).add j) = some v := by
 subst hy; obtain ⟨cur, hc, hl, ht, hb, hcap, hmax, hlc⟩ := row_cur h; intro j v hv; rw [add_plain, blk_cell hc]; have hj : j < m := by
  have := (List.getElem?_eq_some_iff.1 hv).1; simp at this; omega
 rw [List.map_take, ← ht, List.getElem?_take, if_pos hj, List.getElem?_take, if_pos (by omega)] at hv; rw [List.getElem?_toArray]; exact hv
theorem below_grown {B g : Nat} {w W W1 : World} (h : Below B w W) (hg : W.grownBy W1 (some g)) (hB : B ≤ g) (hs : B ≤ W.heap.size) : Below B w W1 :=
 h.trans ⟨hg.os, hg.tape, hg.output, hg.size, fun k hk => hg.block k (by omega) (fun e => by injection e with e; omega)⟩
def cpy (x : List Int) (j : Int) : List Int := splice x 1 (x.take (Nat.min j.toNat (x.length - 1)))
attribute [local go_sem] max2_int min2_int max_two min_two max_three min_three max_four min_four
set_option linter.unusedSimpArgs false
set_option maxHeartbeats 8000000
set_option maxRecDepth 100000
mutual
def field_multiply.l0 : Nat → List Int → List Int → List Int → Int → Int → Int → List Int → Option (Int)
 | 0, _, _, _, _, _, _, _ => none
 | k + 1, x7, x8, x9, x10, x141000, x141001, x141002 => if x10 ≥ 0 then (if 0 ≤ (wrap64 (x141001 - 1)) then (if (wrap64 (x141001 - 1)) < (x9.length : Int) then (if 0 < (x9.length : Int) then (field_multiply.l1 k x7 x8 ((cpy x9 (wrap64 (x141001 - 1))).set (0 : Int).toNat 0) x10 (rd x9 (wrap64 (x141001 - 1))) (x9.length : Int) 0 x141000 x141001 x141002) else (none)) else (none)) else (none)) else ((field_valueOf.f k x9 x141000).bind fun t150 => (some t150))
def field_multiply.l1 : Nat → List Int → List Int → List Int → Int → Int → Int → Int → Int → Int → List Int → Option (Int)
 | 0, _, _, _, _, _, _, _, _, _, _ => none
 | k + 1, x7, x8, x9, x10, x11, x53, x54, x141000, x141001, x141002 => if x54 < x53 then (if x141001 > 1 then (if 0 ≤ x54 then (if x54 < (x141002.length : Int) then (if x54 < (x9.length : Int) then (if 0 ≤ x10 then (if x10 < (x8.length : Int) then (if x54 < (x7.length : Int) then (if x141000 = 0 then (none) else (field_multiply.l1 k x7 x8 (x9.set (x54 : Int).toNat (Int.tmod (wrap64 ((wrap64 ((rd x9 x54) + (wrap64 ((wrap64 (x141000 - x11)) * (rd x141002 x54))))) + (wrap64 ((rd x8 x10) * (rd x7 x54))))) x141000)) x10 x11 x53 (wrap64 (x54 + 1)) x141000 x141001 x141002)) else (none)) else (none)) else (none)) else (none)) else (none)) else (none)) else (if 0 ≤ x54 then (if x54 < (x9.length : Int) then (if 0 ≤ x10 then (if x10 < (x8.length : Int) then (if x54 < (x7.length : Int) then (if x141000 = 0 then (none) else (field_multiply.l1 k x7 x8 (x9.set (x54 : Int).toNat (Int.tmod (wrap64 ((wrap64 ((rd x9 x54) + (wrap64 0))) + (wrap64 ((rd x8 x10) * (rd x7 x54))))) x141000)) x10 x11 x53 (wrap64 (x54 + 1)) x141000 x141001 x141002)) else (none)) else (none)) else (none)) else (none)) else (none))) else (field_multiply.l0 k x7 x8 x9 (wrap64 (x10 - 1)) x141000 x141001 x141002)
end
def field_multiply.f (k : Nat) (a0_0 : Int) (a0_1 : Int) (l0_2 : List Int) (a1 : Int) (a2 : Int) : Option (Int) := (field_digitsOf.f k a1 a0_0 a0_1).bind fun t141 => ((field_digitsOf.f k a2 a0_0 a0_1).bind fun t144 => (if 0 ≤ a0_1 then (if (a0_1 : Int).toNat ≤ 35184372088832 then (field_multiply.l0 k t141 t144 (List.replicate (a0_1 : Int).toNat 0) (wrap64 (a0_1 - 1)) a0_0 a0_1 l0_2) else (none)) else (none)))
def field_multiply.T1 : Bool × List (List Nat × List Nat) := (true, [([], []), ([], []), ([1], [1]), ([], []), ([3], [3]), ([0, 2, 4], [0, 2, 4]), ([], []), ([], []), ([7], [7]), ([], []), ([9], [9]), ([6, 8, 10, 5], [6, 8, 10]), ([5, 11, 0, 1, 2, 3, 4, 5], [5]), ([11, 12, 0, 1, 2, 3, 4, 5, 6, 7, 8, 9, 10, 11, 12], [11])])
def field_multiply.B1 : List Nat := [0, 0, 2, 0, 8, 31, 0, 0, 128, 0, 512, 2047, 4095, 8191]
theorem field_multiply.tab1 : rtab .any (opsOf Try.f128 1) = field_multiply.T1 := by kernel_rfl
theorem field_multiply.bits1 : waitsOk field_multiply.T1.2 field_multiply.B1 = true := by kernel_rfl
def field_multiply.T15 : Bool × List (List Nat × List Nat) := (true, [([], []), ([], []), ([], []), ([], []), ([2, 3], [2, 3]), ([4], [4]), ([], []), ([6], [6]), ([], []), ([7, 8], [7, 8]), ([], []), ([9, 10], [9, 10]), ([5, 11], [5, 11]), ([], []), ([], []), ([13, 14], [13, 14]), ([15], [15]), ([], []), ([], []), ([17, 18], [17, 18]), ([19], [19]), ([16, 20], [16, 20]), ([12, 21], [12, 21]), ([], []), ([23], [23]), ([22, 24], [22, 24]), ([0, 1, 0, 1, 2, 3, 4, 5, 6, 7, 8, 9, 10, 11, 12, 13, 14, 15, 16, 17, 18, 19, 20, 21, 22, 23, 24, 25], [0, 1]), ([26, 25, 0, 1, 2, 3, 4, 5, 6, 7, 8, 9, 10, 11, 12, 13, 14, 15, 16, 17, 18, 19, 20, 21, 22, 23, 24, 25], [25, 26])])
def field_multiply.B15 : List Nat := [0, 0, 0, 0, 12, 28, 0, 64, 0, 448, 0, 1984, 4092, 0, 0, 24576, 57344, 0, 0, 393216, 917504, 2088960, 4194300, 0, 8388608, 33554428, 67108863, 134217727]
theorem field_multiply.tab15 : rtab .any (opsOf Try.f128 15) = field_multiply.T15 := by kernel_rfl
theorem field_multiply.bits15 : waitsOk field_multiply.T15.2 field_multiply.B15 = true := by kernel_rfl
theorem field_multiply.calls (k : Nat) (a0_0 : Int) (a0_1 : Int) (A0_2 : Option Addr) (c0_2 : Nat) (l0_2 : List Int) (a1 : Int) (a2 : Int) (r : Int) (w : World) (hr0_2 : Kd.C (Kd.int .i64) w A0_2 l0_2.length l0_2) (hc0_2 : l0_2.length ≤ c0_2) (h : field_multiply.f k a0_0 a0_1 l0_2 a1 a2 = some r) :
  Calls Try.prog 128 #[.agg #[.int .i64 a0_0, .int .i64 a0_1, .slice A0_2 l0_2.length c0_2], .int .i64 a1, .int .i64 a2] w fun e w' => e = .returned (.int .i64 r) ∧ Below w.heap.size w w' := by
 have hu33 := Try.underlying33; have HR0_2 := Aside0.mk hr0_2; have HC0_2 := Aside0.mk hc0_2; clear hr0_2 hc0_2; have HB := Aside0.mk (Below.refl w.heap.size w); have H : ((field_digitsOf.f k a1 a0_0 a0_1).bind fun t141 => ((field_digitsOf.f k a2 a0_0 a0_1).bind fun t144 => (if 0 ≤ a0_1 then (if (a0_1 : Int).toNat ≤ 35184372088832 then (field_multiply.l0 k t141 t144 (List.replicate (a0_1 : Int).toNat 0) (wrap64 (a0_1 - 1)) a0_0 a0_1 l0_2) else (none)) else (none)))) = some r := h; clear h; replace H := bz H; obtain ⟨t141, A4, H⟩ := H; replace H := bz H; obtain ⟨t144, A5, H⟩ := H; replace H := ift H; obtain ⟨c6b0, c6b1, H⟩ := H; replace H := ift H; obtain ⟨c7b0, c7b1, H⟩ := H; generalize hy147 : ((List.replicate (a0_1 : Int).toNat 0) : List Int) = y147 at H; have Ny147 := Aside0.mk hy147.symm; clear hy147; have H' := Aside0.mk H; clear H; go_enter Try.func128, Try.ntmps128; try go_wp2_with (first | ((with_reducible refine gate_dst (N := 3) rfl ?_); refine bx (cs := #[.int .i64 a0_0, .int .i64 a0_1, .slice A0_2 l0_2.length c0_2]) (t := 33) ?_; intro gb140 hg w8 hbox hb; have BK140 := Aside0.mk (hbox); have GW140 := Aside0.mk ((by rw [hg]; exact bsz : w.heap.size ≤ gb140)); have GE140 := Aside0.mk ((by rw [hg]; exact bsz : w.heap.size ≤ gb140)); replace HB := bst hb; clear hb hbox hg))
 replace BK140 := Aside0.mk (blk_drew BK140.out); replace HB := Aside0.mk (below_drew1 HB.out); refine st_ (S := fun w' => w'.cell? ⟨gb140, 0, none⟩ = some (.int .i64 a0_0) ∧ w'.cell? ⟨gb140, 1, none⟩ = some (.int .i64 a0_1) ∧ w'.cell? ⟨gb140, 2, none⟩ = some (.slice A0_2 l0_2.length c0_2)) (ds := []) 14 field_multiply.tab1 field_multiply.bits1 ⟨bc BK140 0, bc BK140 1, bc BK140 2⟩ fun hHeld HT_ HW_ => ?_
 generalize w8.drew = w9 at BK140 HB hHeld ⊢; refine pu 0 14 (bm 14 1) ?_; refine pu 1 15 (bm 14 3) ?_; refine pu 3 17 (bm 14 11) ?_; refine pu 6 20 (bm 14 75) ?_; refine pu 7 21 (bm 14 203) ?_; refine pu 9 23 (bm 14 715) ?_; refine take_ (i := 2) (N := some 16) (v := ?_) (a' := ?_) (bm 14 719) rfl rfl (take_ofW HT_.out HW_.out (by kernel_rfl)) (fun _ _ _ h => h) (Or.inl ⟨by rfl, ?_⟩) hHeld ?_ ?_; rotate_left
 ·rintro w' ⟨s0, s1, s2⟩; go_simp; with_reducible rfl
 rotate_left
 ·simp only [Act.put, List.setIfInBounds_toArray, List.set_cons_zero, List.set_cons_succ, i64_w, i32_w]; rfl
 refine take_ (i := 4) (N := some 18) (v := ?_) (a' := ?_) (bm 14 735) rfl rfl (take_ofW HT_.out HW_.out (by kernel_rfl)) (fun _ _ _ h => h) (Or.inl ⟨by rfl, ?_⟩) hHeld ?_ ?_; rotate_left
 ·rintro w' ⟨s0, s1, s2⟩; go_simp; with_reducible rfl
 rotate_left
 ·simp only [Act.put, List.setIfInBounds_toArray, List.set_cons_zero, List.set_cons_succ, i64_w, i32_w]; rfl
 refine take_ (i := 8) (N := some 22) (v := ?_) (a' := ?_) (bm 14 991) rfl rfl (take_ofW HT_.out HW_.out (by kernel_rfl)) (fun _ _ _ h => h) (Or.inl ⟨by rfl, ?_⟩) hHeld ?_ ?_; rotate_left
 ·rintro w' ⟨s0, s1, s2⟩; go_simp; with_reducible rfl
 rotate_left
 ·simp only [Act.put, List.setIfInBounds_toArray, List.set_cons_zero, List.set_cons_succ, i64_w, i32_w]; rfl
 refine take_ (i := 10) (N := some 24) (v := ?_) (a' := ?_) (bm 14 2015) rfl rfl (take_ofW HT_.out HW_.out (by kernel_rfl)) (fun _ _ _ h => h) (Or.inl ⟨by rfl, ?_⟩) hHeld ?_ ?_; rotate_left
 ·rintro w' ⟨s0, s1, s2⟩; go_simp; with_reducible rfl
 rotate_left
 ·simp only [Act.put, List.setIfInBounds_toArray, List.set_cons_zero, List.set_cons_succ, i64_w, i32_w]; rfl
 refine on 5 19 (bm 14 2047) fun K hK => ?_
 refine gs Try.func132 #[.int .i64 a1, .int .i64 a0_0, .int .i64 a0_1] ?_; with_reducible refine (field_digitsOf.calls k a1 a0_0 a0_1 t141 _ A4.out).mono ?_
 rintro e w10 ⟨v142, rfl, ho0, hb⟩; refine ⟨_, rfl, ?_⟩; have HO143 := Aside0.mk (Kd.R_lower ho0 bsz); replace BK140 := Aside0.mk (blk_below (g := gb140) (o := .cells #[.int .i64 a0_0, .int .i64 a0_1, .slice A0_2 l0_2.length c0_2] 33 (0, 0)) (ba BK140) hb); replace HB := bst hb; refine hK.out _ _ ⟨bc BK140 0, bc BK140 1, bc BK140 2⟩ (fun hHeld => ?_); clear hK K; refine nmz 19 ?_; refine on 11 25 (bm 14 4095) fun K hK => ?_
 refine gs Try.func132 #[.int .i64 a2, .int .i64 a0_0, .int .i64 a0_1] ?_; with_reducible refine (field_digitsOf.calls k a2 a0_0 a0_1 t144 _ A5.out).mono ?_
 rintro e w11 ⟨v145, rfl, ho0, hb⟩; refine ⟨_, rfl, ?_⟩; have HO146 := Aside0.mk (Kd.R_lower (Kd.R_new' ho0 (Kd.R_lt (ra HO143))) bsz); replace HO143 := Aside0.mk (Kd.R_elder' (ra HO143) (Kd.R_base ho0) hb); replace BK140 := Aside0.mk (blk_below (g := gb140) (o := .cells #[.int .i64 a0_0, .int .i64 a0_1, .slice A0_2 l0_2.length c0_2] 33 (0, 0)) (ba BK140) hb); replace HB := bst hb; refine hK.out _ _ ⟨bc BK140 0, bc BK140 1, bc BK140 2⟩ (fun hHeld => ?_); clear hK K; refine nmz 25 ?_; refine pu 12 7 (bm 14 8191) ?_; refine pu 13 8 (bm 14 16383) ?_; refine dn ?_; obtain ⟨hcz12_0, hcz12_1, hcz12_2, hfz12_0, hfz12_1, hfz12_2⟩ := b3 BK140; try go_wp2_with (first | ((with_reducible refine gate_dst (N := 28) rfl ?_); refine Kd.R_make (Kd.int .i64) _ 3 rfl (N := 28) rfl 31 _ _ rfl a0_1 rfl rfl Try.underlying31 (.int .i64 0) 8 info3 rfl (by decide) (by omega) 0 (ok := fun _ => True) (okp := fun _ => True) rfl (fun _ hk => hk) trivial (oda) (Nat.le_trans (Nat.mul_le_mul_right _ (oda : a0_1.toNat ≤ 35184372088832)) (by omega)) (Below.refl _ _) (Nat.le_refl _) ?_; intro v148 w13 ho14 hb hg_ hnew_; clear hg_ hnew_; (first | rw [← Ny147.out] at ho14 | (simp only [Int.reduceToNat] at ho14; rw [← Ny147.out] at ho14)); have HO149 := Aside0.mk (Kd.R_lower (Kd.R_new' (Kd.R_new' ho14 (Kd.R_lt (ra HO143))) (Kd.R_lt (ra HO146))) bsz); replace HO143 := Aside0.mk (Kd.R_elder' (ra HO143) (Kd.R_base ho14) hb); replace HO146 := Aside0.mk (Kd.R_elder' (ra HO146) (Kd.R_base ho14) hb); replace BK140 := Aside0.mk (blk_below (g := gb140) (o := .cells #[.int .i64 a0_0, .int .i64 a0_1, .slice A0_2 l0_2.length c0_2] 33 (0, 0)) (ba BK140) hb); replace HB := bst hb; clear hb ho14; obtain ⟨hcz15_0, hcz15_1, hcz15_2, hfz15_0, hfz15_1, hfz15_2⟩ := b3 BK140))
 go_loopg [10] k (fun kq v10 w' => ∃ (x9_1 : List Int) (x10_1 : Int), v10 = .int .i64 x10_1 ∧ Aside0 (field_multiply.l0 kq t141 t144 x9_1 x10_1 a0_0 a0_1 l0_2 = some r) ∧ Aside0 (kq ≤ k) ∧ Aside0 (Kd.R (Kd.int .i64) 3 w' w.heap.size (fun k_ => some k_ ≠ (v145 : Value).ownBlock ∧ some k_ ≠ (v148 : Value).ownBlock) v142 t141) ∧ Aside0 (Kd.R (Kd.int .i64) 3 w' w.heap.size (fun k_ => some k_ ≠ (v142 : Value).ownBlock ∧ some k_ ≠ (v148 : Value).ownBlock) v145 t144) ∧ Aside0 (Kd.R (Kd.int .i64) 3 w' w.heap.size (fun k_ => some k_ ≠ (v142 : Value).ownBlock ∧ some k_ ≠ (v145 : Value).ownBlock) v148 x9_1) ∧ Aside0 (w'.heap[gb140]? = some (.cells #[.int .i64 a0_0, .int .i64 a0_1, (.slice A0_2 l0_2.length c0_2)] 33 (0, 0))) ∧ Aside0 (Below w.heap.size w w'))
 case atStart => exact ⟨(y147), (wrap64 (a0_1 - 1)), rs, H', ⟨Nat.le_refl _⟩, ⟨Kd.R_mono (ra HO143) (fun _ hk => ⟨hk.1.2, hk.2⟩)⟩, ⟨Kd.R_mono (ra HO146) (fun _ hk => ⟨hk.1.2, hk.2⟩)⟩, ⟨Kd.R_mono (ra HO149) (fun _ hk => ⟨hk.1.2, hk.2⟩)⟩, ⟨ba BK140⟩, ⟨bel⟩⟩
 clear H'; obtain ⟨x9_1, x10_1, rfl, HA, HK1, HO_7, HO_8, HO_9, BK140, HB⟩ := hrel; rcases gk with _ | k1
 ·exact absurd HA.out (by simp [field_multiply.l0])
 have H := HA.out; clear HA; simp only [field_multiply.l0] at H
 by_cases c16 : x10_1 ≥ 0
 ·rw [if_pos c16] at H; have c16b0 : decide (0 ≤ x10_1) = true := decide_eq_true c16; clear c16; generalize hji17 : (wrap64 (a0_1 - 1)) = ji17 at H; have hji17w : (IntKind.i64.wrap (a0_1 - 1)) = ji17 := (i64_w _).trans hji17; replace H := ifd H; obtain ⟨c18b0, H⟩ := H; replace H := ifd H; obtain ⟨c19b0, H⟩ := H
  by_cases c20 : True
  ·skip
   skip
   skip
   skip
   generalize hy152 : ((cpy x9_1 (ji17)) : List Int) = y152 at H; have Ny152 := Aside0.mk hy152.symm; clear hy152; replace H := ifp H; obtain ⟨c22, H⟩ := H; have c22b0 : decide (0 < (x9_1.length : Int)) = true := decide_eq_true c22; have c22b1 : decide (0 < x9_1.length) = true := decide_eq_true (by omega); clear c22; generalize hy153 : ((y152.set (0 : Int).toNat 0) : List Int) = y153 at H; have Ny153 := Aside0.mk hy153.symm; clear hy153; have H' := Aside0.mk H; clear H; obtain ⟨hcz24_0, hcz24_1, hcz24_2, hfz24_0, hfz24_1, hfz24_2⟩ := b3 BK140; obtain ⟨Ao25, co25, eo25⟩ := Kd.R_slice HO_9.out; subst eo25; have p151 : 0 ≤ ((ji17) : Int) := oda; have q151 : (ji17) < (x9_1.length : Int) := oda; obtain ⟨ad151, e151, hx151_0⟩ := Kd.at_int (Kd.R_reads' HO_9.out).2.2 (ji17) p151 q151; cases e151; replace p151 := eq_true p151; replace q151 := eq_true q151; have qq17 : 0 ≤ ji17 ∧ ji17 < (x9_1.length : Int) := ⟨oda, oda⟩; obtain ⟨go21, co21, eo21, gb21, gl21, cl21, HG21⟩ := Kd.R_form HO_9.out (by omega); (first | cases eo21 | (injection eo21 with ea_ en_ ec_; (first | subst ea_ | (injection ea_ with ea_; subst ea_)); subst ec_; clear en_))
   have GB21 := Aside0.mk gb21; have GG21 := Aside0.mk HG21; clear gb21 gl21 HG21; (first | simp only [add_plain] at hx151_0 | skip)
   obtain ⟨cur26, hcur26, hl26, ht26, hb26, hcap26, hmax26, hlc26⟩ := row_cur HO_9.out; obtain ⟨i026, hi026, _, hsz26, _⟩ := info_parts info3; obtain ⟨dp26, hdp26, hcf26⟩ := cut_one (P := Try.prog) 31 3 Try.underlying31 hi026 hsz26 go21 x9_1.length co25 (by omega) hcap26; have hct26 := cut_to (P := Try.prog) 31 3 .i64 Try.underlying31 hi026 (some ⟨go21, 0, none⟩) x9_1.length co25 (ji17) qq17.1 (by omega) hcap26; obtain ⟨ys26, hys26⟩ : ∃ y : List Int, y = x9_1.take (Nat.min ji17.toNat (x9_1.length - 1)) := ⟨_, rfl⟩; have HYL26 : Aside0 (ys26.length = Nat.min ji17.toNat (x9_1.length - 1)) := ⟨by rw [hys26, List.length_take]; have := qq17.1; have := qq17.2; exact Nat.min_eq_left (Nat.le_trans (Nat.min_le_right _ _) (Nat.sub_le _ _))⟩
   have HYS26 := Aside0.mk hys26; have HSRC26 := Aside0.mk (copy_src HO_9.out (m := Nat.min ji17.toNat (x9_1.length - 1)) (Nat.le_trans (Nat.min_le_right _ _) (Nat.sub_le _ _)) hys26); have HCUR26 := Aside0.mk hcur26; have HDP26 := Aside0.mk hdp26; have HLEN26 := Aside0.mk (show x9_1.length ≤ cur26.length ∧ 1 ≤ x9_1.length from ⟨hl26, by omega⟩); have HYB26 : Aside0 (ys26.length ≤ x9_1.length - 1) := ⟨by rw [HYL26.out]; exact Nat.min_le_right _ _⟩
   clear hys26 hcur26 hdp26 hl26 ht26 hb26 hmax26 hlc26 hi026 hsz26 qq17 hcap26; go_wp2; go_region_law (refine step_copy_g rfl (.tmp 43) (.tmp 48) 31 31 rfl 3 Try.underlying31 (by kernel_rfl) dp26 (some ⟨go21, 0, none⟩) (x9_1.length - 1) (co25 - 1) ji17.toNat co25 rfl rfl go21 1 cur26 3 HCUR26.out (ys26.map (Value.int .i64)) (by rw [List.length_map]; exact HYL26.out) (fun h_ => ⟨HDP26.out (by rw [List.length_map] at h_; have := HYB26.out; omega), _, rfl, HSRC26.out⟩) (by rw [List.length_map]; have := HYB26.out; have := HLEN26.out; omega) (fun v hv => by obtain ⟨z, _, rfl⟩ := List.mem_map.1 hv; rfl) ?_; intro w27 hh26 hg)
   have hp_ : Kd.R (Kd.int .i64) 3 w27 w.heap.size (fun k_ => some k_ ≠ (v142 : Value).ownBlock ∧ some k_ ≠ (v145 : Value).ownBlock) (.slice (some ⟨go21, 0, none⟩) x9_1.length co25) y152 := by rw [Ny152.out]; unfold cpy; rw [← HYS26.out]; exact row_splice HO_9.out HCUR26.out (by have := HYB26.out; have := HLEN26.out; omega) hh26.out
   have n0_ := Aside0.mk (Kd.R_after (v := (.slice (some ⟨go21, 0, none⟩) x9_1.length co25)) (v1 := (.slice (some ⟨go21, 0, none⟩) x9_1.length co25)) (ok := (fun k_ => some k_ ≠ (v145 : Value).ownBlock)) (ra HO_7) hg (.inl rfl)); have n1_ := Aside0.mk (Kd.R_after (v := (.slice (some ⟨go21, 0, none⟩) x9_1.length co25)) (v1 := (.slice (some ⟨go21, 0, none⟩) x9_1.length co25)) (ok := (fun k_ => some k_ ≠ (v142 : Value).ownBlock)) (ra HO_8) hg (.inl rfl)); have n2_ := Aside0.mk (hp_); have n3_ := Aside0.mk (blk_grown (g := gb140) (o := .cells #[.int .i64 a0_0, .int .i64 a0_1, .slice A0_2 l0_2.length c0_2] 33 (0, 0)) (ba BK140) hg (Kd.R_ne HO_9.out BK140.out (by decide))); have n4_ : Aside0 (Below w.heap.size w w27) := ⟨below_grown (W := wr.drew) (below_drew1 HB.out) hg GB21.out HB.out.size⟩; clear HO_7 HO_8 HO_9 BK140 HB hg hp_ hh26 HCUR26 HDP26 HLEN26 HYB26 HYL26 HYS26 HSRC26 hcf26 hct26; have HO_7 := n0_; have HO_8 := n1_; have HO_9 := n2_; have BK140 := n3_; have HB := n4_; clear n0_ n1_ n2_ n3_ n4_; have p23 : 0 ≤ (0 : Int) := (by omega); have q23 : (0 : Int) < ((x9_1.length : Int) : Int) := oda; have qi23 : (0 < x9_1.length) = True := eq_true (by omega); obtain ⟨hx23_0, hf23_0⟩ := Kd.R_celln 0 HO_9.out (0 : Int) p23 q23
   (try rw [show ((0 : Int)).toNat = 0 from rfl] at hx23_0)
   (try simp only [Nat.reduceMul, Nat.zero_mul, Nat.zero_add, Nat.reduceAdd] at hx23_0)
   (try rw [show ((0 : Int)).toNat = 0 from rfl] at hf23_0)
   (try simp only [Nat.reduceMul, Nat.zero_mul, Nat.zero_add, Nat.reduceAdd] at hf23_0)
   replace p23 := eq_true p23; replace q23 := eq_true q23; obtain ⟨hy28_, hz28_⟩ := Kd.R_celln 0 HO_9.out (0 : Int) (by omega) (oda)
   (try simp only [Int.reduceToNat, Int.toNat_zero, Int.toNat_ofNat, Nat.reduceMul, Nat.zero_mul, Nat.zero_add] at hy28_ hz28_)
   (try rw [show ((0 : Int)).toNat = 0 from rfl] at hy28_)
   (try rw [show ((0 : Int)).toNat = 0 from rfl] at hz28_)
   have HP28 := Kd.R_putg HO_9.out (0 : Int) 0; go_wp2_with (first | ((with_reducible refine gate_store (t := 3) (p := 51) rfl ?_); refine store_event (t := 3) (p := 51) (v := ?vo_w29) (w1 := (w27.setCell ⟨go21, (0 : Int).toNat, none⟩ (.int .i64 0))) ?hg ?ho ?hn ?hr ?_; (case ho => rfl); (case hg => rfl); (case hn => rfl); (case hr => first | (go_simp; done) | (go_simp; rfl)); intro w29 hw; have hg : w27.grownBy w29 (some go21) := (by rw [hw]; exact HP28.2); have hp_ : Kd.R (Kd.int .i64) 3 w29 w.heap.size (fun k_ => some k_ ≠ (v142 : Value).ownBlock ∧ some k_ ≠ (v145 : Value).ownBlock) (.slice (some ⟨go21, 0, none⟩) x9_1.length co25) y153 := (by rw [hw, Ny153.out]; exact HP28.1); clear HP28; replace HO_7 := Aside0.mk (Kd.R_after (v := (.slice (some ⟨go21, 0, none⟩) x9_1.length co25)) (v1 := (.slice (some ⟨go21, 0, none⟩) x9_1.length co25)) (ok := (fun k_ => some k_ ≠ (v145 : Value).ownBlock)) (ra HO_7) hg (.inl rfl)); replace HO_8 := Aside0.mk (Kd.R_after (v := (.slice (some ⟨go21, 0, none⟩) x9_1.length co25)) (v1 := (.slice (some ⟨go21, 0, none⟩) x9_1.length co25)) (ok := (fun k_ => some k_ ≠ (v142 : Value).ownBlock)) (ra HO_8) hg (.inl rfl)); replace BK140 := Aside0.mk (blk_grown (g := gb140) (o := .cells #[.int .i64 a0_0, .int .i64 a0_1, .slice A0_2 l0_2.length c0_2] 33 (0, 0)) (ba BK140) hg (Kd.R_ne HO_9.out BK140.out (by decide))); replace HO_9 := Aside0.mk (hp_); replace HB := Aside0.mk ((by rw [hw]; exact below_set (HB.out) GB21.out : Below w.heap.size w w29)); clear hg hw hp_))
   go_loopg [54] k1 (fun kq v54 w' => ∃ (x9_2 : List Int) (x54_2 : Int), v54 = .int .i64 x54_2 ∧ Aside0 (field_multiply.l1 kq t141 t144 x9_2 x10_1 (rd x9_1 (ji17)) (x9_1.length : Int) x54_2 a0_0 a0_1 l0_2 = some r) ∧ Aside0 (kq ≤ k1) ∧ Aside0 (Kd.R (Kd.int .i64) 3 w' w.heap.size (fun k_ => some k_ ≠ (v145 : Value).ownBlock ∧ some k_ ≠ ((.slice (some ⟨go21, 0, none⟩) x9_1.length co25) : Value).ownBlock) v142 t141) ∧ Aside0 (Kd.R (Kd.int .i64) 3 w' w.heap.size (fun k_ => some k_ ≠ (v142 : Value).ownBlock ∧ some k_ ≠ ((.slice (some ⟨go21, 0, none⟩) x9_1.length co25) : Value).ownBlock) v145 t144) ∧ Aside0 (Kd.R (Kd.int .i64) 3 w' w.heap.size (fun k_ => some k_ ≠ (v142 : Value).ownBlock ∧ some k_ ≠ (v145 : Value).ownBlock) (.slice (some ⟨go21, 0, none⟩) x9_1.length co25) x9_2) ∧ Aside0 (w'.heap[gb140]? = some (.cells #[.int .i64 a0_0, .int .i64 a0_1, (.slice A0_2 l0_2.length c0_2)] 33 (0, 0))) ∧ Aside0 (Below w.heap.size w w'))
   case atStart => exact ⟨(y153), (0), rs, H', ⟨Nat.le_refl _⟩, ⟨ra HO_7⟩, ⟨ra HO_8⟩, ⟨ra HO_9⟩, ⟨ba BK140⟩, ⟨bel⟩⟩
   clear H'; obtain ⟨x9_2, x54_2, rfl, HA, HK2, HO_7, HO_8, HO_9, BK140, HB⟩ := hrel; have hl9_2 := (Kd.R_reads' HO_9.out).1; rw [hl9_2] at HO_9
   (try simp only [hl9_2])
   (try simp only [hl9_2] at BK140)
   (try simp only [hl9_2] at HO_7)
   (try simp only [hl9_2] at HO_8)
   rcases gk with _ | k2
   ·exact absurd HA.out (by simp [field_multiply.l1])
   have H := HA.out; clear HA; simp only [field_multiply.l1] at H
   by_cases c30 : x54_2 < (x9_1.length : Int)
   ·rw [if_pos c30] at H; have c30b0 : decide (x54_2 < (x9_1.length : Int)) = true := decide_eq_true c30
    (try simp only [hl9_2] at c30b0)
    clear c30
    by_cases c31 : a0_1 > 1
    ·rw [if_pos c31] at H; have c31b0 : decide (1 < a0_1) = true := decide_eq_true c31; clear c31; replace H := ifd H; obtain ⟨c32b0, H⟩ := H; replace H := ifp H; obtain ⟨c33, H⟩ := H; have c33b0 : decide (x54_2 < (l0_2.length : Int)) = true := decide_eq_true c33
     (try simp only [hl9_2] at c33b0)
     clear c33; replace H := ifp H; obtain ⟨c34, H⟩ := H; have c34b0 : decide (x54_2 < (x9_2.length : Int)) = true := decide_eq_true c34
     (try simp only [hl9_2] at c34b0)
     clear c34; replace H := ifd H; obtain ⟨c35b0, H⟩ := H; replace H := ifp H; obtain ⟨c36, H⟩ := H; have c36b0 : decide (x10_1 < (t144.length : Int)) = true := decide_eq_true c36
     (try simp only [hl9_2] at c36b0)
     clear c36; replace H := ifp H; obtain ⟨c37, H⟩ := H; have c37b0 : decide (x54_2 < (t141.length : Int)) = true := decide_eq_true c37
     (try simp only [hl9_2] at c37b0)
     clear c37; replace H := ifn H; obtain ⟨c38, H⟩ := H; have c38b0 : (a0_0 == 0) = false := beq_eq_false_iff_ne.mpr c38; have c38b1 : (a0_0 != 0) = true := bne_iff_ne.mpr c38; generalize hy158 : ((x9_2.set (x54_2 : Int).toNat (Int.tmod (wrap64 ((wrap64 ((rd x9_2 x54_2) + (wrap64 ((wrap64 (a0_0 - (rd x9_1 (ji17)))) * (rd l0_2 x54_2))))) + (wrap64 ((rd t144 x10_1) * (rd t141 x54_2))))) a0_0)) : List Int) = y158 at H; have Ny158 := Aside0.mk hy158.symm; clear hy158; have H' := Aside0.mk H; clear H; obtain ⟨hcz40_0, hcz40_1, hcz40_2, hfz40_0, hfz40_1, hfz40_2⟩ := b3 BK140; have p154 : 0 ≤ (x54_2 : Int) := oda; have q154 : x54_2 < (l0_2.length : Int) := oda; obtain ⟨ad154, e154, hx154_0⟩ := Kd.at_int HR0_2.out x54_2 p154 q154; cases e154
     (try replace hx154_0 := hbc hx154_0)
     replace p154 := eq_true p154; replace q154 := eq_true q154; try go_wp2
     replace HO_7 := Aside0.mk (Kd.R_drew HO_7.out); replace HO_8 := Aside0.mk (Kd.R_drew HO_8.out); replace HO_9 := Aside0.mk (Kd.R_drew HO_9.out); replace BK140 := Aside0.mk (blk_drew BK140.out); replace HB := Aside0.mk (below_drew1 HB.out); have p155 : 0 ≤ (x54_2 : Int) := oda; have q155 : x54_2 < (x9_2.length : Int) := oda; obtain ⟨ad155, e155, hx155_0⟩ := Kd.at_int (Kd.R_reads' HO_9.out).2.2 x54_2 p155 q155; obtain rfl : (⟨go21, 0, none⟩ : Addr) = ad155 := (by injection e155); (first | simp only [add_plain] at hx155_0 | simp only [add_at] at hx155_0 | simp only [Addr.add, Nat.zero_add] at hx155_0 | skip)
     replace p155 := eq_true p155; replace q155 := eq_true q155; obtain ⟨Ao42, co42, eo42⟩ := Kd.R_slice HO_8.out; (first | subst eo42 | (injection eo42 with f1_ f2_ f3_; have f4_ := f1_.symm; have f5_ := f3_.symm; clear f1_ f2_ f3_; subst f4_; subst f5_))
     have p156 : 0 ≤ (x10_1 : Int) := oda; have q156 : x10_1 < (t144.length : Int) := oda; obtain ⟨ad156, e156, hx156_0⟩ := Kd.at_int (Kd.R_reads' HO_8.out).2.2 x10_1 p156 q156; cases e156; replace p156 := eq_true p156; replace q156 := eq_true q156; obtain ⟨Ao43, co43, eo43⟩ := Kd.R_slice HO_7.out; (first | subst eo43 | (injection eo43 with f1_ f2_ f3_; have f4_ := f1_.symm; have f5_ := f3_.symm; clear f1_ f2_ f3_; subst f4_; subst f5_))
     have p157 : 0 ≤ (x54_2 : Int) := oda; have q157 : x54_2 < (t141.length : Int) := oda; obtain ⟨ad157, e157, hx157_0⟩ := Kd.at_int (Kd.R_reads' HO_7.out).2.2 x54_2 p157 q157; cases e157; replace p157 := eq_true p157; replace q157 := eq_true q157; have p39 : 0 ≤ (x54_2 : Int) := oda; have q39 : (x54_2 : Int) < ((x9_2.length : Int) : Int) := oda; obtain ⟨hx39_0, hf39_0⟩ := Kd.R_celln 0 HO_9.out (x54_2 : Int) p39 q39; replace p39 := eq_true p39; replace q39 := eq_true q39; have HP44 := Kd.R_putn HO_9.out (x54_2 : Int) (Int.tmod (wrap64 ((wrap64 ((rd x9_2 x54_2) + (wrap64 ((wrap64 (a0_0 - (rd x9_1 (ji17)))) * (rd l0_2 x54_2))))) + (wrap64 ((rd t144 x10_1) * (rd t141 x54_2))))) a0_0); rw [← Ny158.out] at HP44; have HQ44 := Aside0.mk HP44; clear HP44; refine st_ (S := fun w' => w'.cell? ⟨gb140, 0, none⟩ = some (.int .i64 a0_0) ∧ w'.cell? ⟨gb140, 1, none⟩ = some (.int .i64 a0_1) ∧ w'.cell? ⟨gb140, 2, none⟩ = some (.slice (some ad154) l0_2.length c0_2) ∧ w'.cell? ⟨go21, (x54_2).toNat, none⟩ = some (.int .i64 (rd x9_2 x54_2)) ∧ w'.cell? (ad156.add (x10_1).toNat) = some (.int .i64 (rd t144 x10_1)) ∧ w'.cell? (ad157.add (x54_2).toNat) = some (.int .i64 (rd t141 x54_2))) (ds := [27]) 28 field_multiply.tab15 field_multiply.bits15 ⟨bc BK140 0, bc BK140 1, bc BK140 2, hx155_0, hx156_0, hx157_0⟩ fun hHeld HT_ HW_ => ?_
     generalize wr.drew = w41 at HO_7 HO_8 HO_9 BK140 HB HQ44 hf39_0 hx155_0 hx156_0 hx157_0 hx39_0 hHeld ⊢; refine pu 0 65 (bm 28 1) ?_; refine pu 1 66 (bm 28 3) ?_; refine pu 2 67 (bm 28 7) ?_; refine pu 3 68 (bm 28 15) ?_; refine pu 4 69 (bm 28 31) ?_; refine pu 6 71 (bm 28 95) ?_; refine pu 8 73 (bm 28 351) ?_; refine pu 10 75 (bm 28 1375) ?_; refine pu 13 78 (bm 28 9567) ?_; refine pu 14 79 (bm 28 25951) ?_; refine pu 15 80 (bm 28 58719) ?_; refine pu 17 82 (bm 28 189791) ?_; refine pu 18 83 (bm 28 451935) ?_; refine pu 19 84 (bm 28 976223) ?_; refine pu 23 88 (bm 28 9364831) ?_; refine take_ (i := 5) (N := some 70) (v := ?_) (a' := ?_) (bm 28 9364863) rfl rfl (take_ofW HT_.out HW_.out (by kernel_rfl)) (fun _ _ _ h => h) (Or.inl ⟨by rfl, ?_⟩) hHeld ?_ ?_; rotate_left
     ·rintro w' ⟨s0, s1, s2, s3, s4, s5⟩; go_simp; with_reducible rfl
     rotate_left
     ·simp only [Act.put, List.setIfInBounds_toArray, List.set_cons_zero, List.set_cons_succ, i64_w, i32_w]; rfl
     refine take_ (i := 7) (N := some 72) (v := ?_) (a' := ?_) (bm 28 9364991) rfl rfl (take_ofW HT_.out HW_.out (by kernel_rfl)) (fun _ _ _ h => h) (Or.inl ⟨by rfl, ?_⟩) hHeld ?_ ?_; rotate_left
     ·rintro w' ⟨s0, s1, s2, s3, s4, s5⟩; go_simp; with_reducible rfl
     rotate_left
     ·simp only [Act.put, List.setIfInBounds_toArray, List.set_cons_zero, List.set_cons_succ, i64_w, i32_w]; rfl
     refine pu 9 74 (bm 28 9365503) ?_; refine pu 11 76 (bm 28 9367551) ?_; refine pu 12 77 (bm 28 9371647) ?_; refine take_ (i := 16) (N := some 81) (v := ?_) (a' := ?_) (bm 28 9437183) rfl rfl (take_ofW HT_.out HW_.out (by kernel_rfl)) (fun _ _ _ h => h) (Or.inl ⟨by rfl, ?_⟩) hHeld ?_ ?_; rotate_left
     ·rintro w' ⟨s0, s1, s2, s3, s4, s5⟩; go_simp; with_reducible rfl
     rotate_left
     ·simp only [Act.put, List.setIfInBounds_toArray, List.set_cons_zero, List.set_cons_succ, i64_w, i32_w]; rfl
     refine take_ (i := 20) (N := some 85) (v := ?_) (a' := ?_) (bm 28 10485759) rfl rfl (take_ofW HT_.out HW_.out (by kernel_rfl)) (fun _ _ _ h => h) (Or.inl ⟨by rfl, ?_⟩) hHeld ?_ ?_; rotate_left
     ·rintro w' ⟨s0, s1, s2, s3, s4, s5⟩; go_simp; with_reducible rfl
     rotate_left
     ·simp only [Act.put, List.setIfInBounds_toArray, List.set_cons_zero, List.set_cons_succ, i64_w, i32_w]; rfl
     refine pu 21 86 (bm 28 12582911) ?_; refine pu 22 87 (bm 28 16777215) ?_; refine take_ (i := 24) (N := some 89) (v := ?_) (a' := ?_) (bm 28 33554431) rfl rfl (take_ofW HT_.out HW_.out (by kernel_rfl)) (fun _ _ _ h => h) (Or.inl ⟨by rfl, ?_⟩) hHeld ?_ ?_; rotate_left
     ·rintro w' ⟨s0, s1, s2, s3, s4, s5⟩; go_simp; with_reducible rfl
     rotate_left
     ·simp only [Act.put, List.setIfInBounds_toArray, List.set_cons_zero, List.set_cons_succ, i64_w, i32_w]; rfl
     refine pu 25 90 (bm 28 67108863) ?_; refine pu 26 91 (bm 28 134217727) ?_; refine last_ (i := 27) (N := none) (bm 28 268435455) rfl rfl (one_of HT_.out (by kernel_rfl)) (by decide) fun K hK => ?_
     refine skip_ (w1 := ?_) (by rfl) rfl ?_ ?_; rotate_left
     ·go_simp; rfl
     refine hK.out _ _ ?_; clear hK K; refine dn ?_; try go_wp2
     (try simp only [← hl9_2])
     go_roundg k2
     case measure => have := HK1.out; have := HK2.out; omega
     case rel => exact ⟨(y158), (wrap64 (x54_2 + 1)), rs, H', ⟨by have := HK1.out; have := HK2.out; omega⟩, ⟨by (try simp only [hl9_2]); (with_reducible repeat (first | apply Kd.R_alloc | apply Kd.R_drewN | apply Kd.R_drew)); exact Kd.R_mono (Kd.R_far (p := ⟨go21, (x54_2 : Int).toNat, none⟩) (Kd.R_mono HO_7.out (fun k_ hk => (⟨hk, fun e_ => hk.2 (by rw [e_]; rfl)⟩ : _ ∧ k_ ≠ go21))) (fun _ hk => hk.2) (.int .i64 (Int.tmod (wrap64 ((wrap64 ((rd x9_2 x54_2) + (wrap64 ((wrap64 (a0_0 - (rd x9_1 (ji17)))) * (rd l0_2 x54_2))))) + (wrap64 ((rd t144 x10_1) * (rd t141 x54_2))))) a0_0))) (fun _ hk => ⟨hk.1.1, hk.1.2⟩)⟩, ⟨by (try simp only [hl9_2]); (with_reducible repeat (first | apply Kd.R_alloc | apply Kd.R_drewN | apply Kd.R_drew)); exact Kd.R_mono (Kd.R_far (p := ⟨go21, (x54_2 : Int).toNat, none⟩) (Kd.R_mono HO_8.out (fun k_ hk => (⟨hk, fun e_ => hk.2 (by rw [e_]; rfl)⟩ : _ ∧ k_ ≠ go21))) (fun _ hk => hk.2) (.int .i64 (Int.tmod (wrap64 ((wrap64 ((rd x9_2 x54_2) + (wrap64 ((wrap64 (a0_0 - (rd x9_1 (ji17)))) * (rd l0_2 x54_2))))) + (wrap64 ((rd t144 x10_1) * (rd t141 x54_2))))) a0_0))) (fun _ hk => ⟨hk.1.1, hk.1.2⟩)⟩, ⟨by (try simp only [hl9_2]); (with_reducible repeat (first | apply Kd.R_alloc | apply Kd.R_drewN | apply Kd.R_drew)); exact HQ44.out⟩, ⟨by (try simp only [hl9_2]); (with_reducible repeat (first | refine blk_drewN ?_ _ | refine blk_drew ?_ | refine blk_alloc ?_ _)); refine blk_far ?_ (by have h_ := Kd.R_ne HO_9.out BK140.out (by decide); intro e_; exact h_ (by rw [e_]; rfl)) _; exact ba BK140⟩, ⟨bel⟩⟩
    rw [if_neg c31] at H; have c31b0 : decide (1 < a0_1) = false := decide_eq_false c31; clear c31; replace H := ifd H; obtain ⟨c45b0, H⟩ := H; replace H := ifp H; obtain ⟨c46, H⟩ := H; have c46b0 : decide (x54_2 < (x9_2.length : Int)) = true := decide_eq_true c46
    (try simp only [hl9_2] at c46b0)
    clear c46; replace H := ifd H; obtain ⟨c47b0, H⟩ := H; replace H := ifp H; obtain ⟨c48, H⟩ := H; have c48b0 : decide (x10_1 < (t144.length : Int)) = true := decide_eq_true c48
    (try simp only [hl9_2] at c48b0)
    clear c48; replace H := ifp H; obtain ⟨c49, H⟩ := H; have c49b0 : decide (x54_2 < (t141.length : Int)) = true := decide_eq_true c49
    (try simp only [hl9_2] at c49b0)
    clear c49; replace H := ifn H; obtain ⟨c50, H⟩ := H; have c50b0 : (a0_0 == 0) = false := beq_eq_false_iff_ne.mpr c50; have c50b1 : (a0_0 != 0) = true := bne_iff_ne.mpr c50; generalize hy162 : ((x9_2.set (x54_2 : Int).toNat (Int.tmod (wrap64 ((wrap64 ((rd x9_2 x54_2) + (wrap64 0))) + (wrap64 ((rd t144 x10_1) * (rd t141 x54_2))))) a0_0)) : List Int) = y162 at H; have Ny162 := Aside0.mk hy162.symm; clear hy162; have H' := Aside0.mk H; clear H; obtain ⟨hcz52_0, hcz52_1, hcz52_2, hfz52_0, hfz52_1, hfz52_2⟩ := b3 BK140; try go_wp2
    replace HO_7 := Aside0.mk (Kd.R_drew HO_7.out); replace HO_8 := Aside0.mk (Kd.R_drew HO_8.out); replace HO_9 := Aside0.mk (Kd.R_drew HO_9.out); replace BK140 := Aside0.mk (blk_drew BK140.out); replace HB := Aside0.mk (below_drew1 HB.out); have p159 : 0 ≤ (x54_2 : Int) := oda; have q159 : x54_2 < (x9_2.length : Int) := oda; obtain ⟨ad159, e159, hx159_0⟩ := Kd.at_int (Kd.R_reads' HO_9.out).2.2 x54_2 p159 q159; obtain rfl : (⟨go21, 0, none⟩ : Addr) = ad159 := (by injection e159); (first | simp only [add_plain] at hx159_0 | simp only [add_at] at hx159_0 | simp only [Addr.add, Nat.zero_add] at hx159_0 | skip)
    replace p159 := eq_true p159; replace q159 := eq_true q159; obtain ⟨Ao54, co54, eo54⟩ := Kd.R_slice HO_8.out; (first | subst eo54 | (injection eo54 with f1_ f2_ f3_; have f4_ := f1_.symm; have f5_ := f3_.symm; clear f1_ f2_ f3_; subst f4_; subst f5_))
    have p160 : 0 ≤ (x10_1 : Int) := oda; have q160 : x10_1 < (t144.length : Int) := oda; obtain ⟨ad160, e160, hx160_0⟩ := Kd.at_int (Kd.R_reads' HO_8.out).2.2 x10_1 p160 q160; cases e160; replace p160 := eq_true p160; replace q160 := eq_true q160; obtain ⟨Ao55, co55, eo55⟩ := Kd.R_slice HO_7.out; (first | subst eo55 | (injection eo55 with f1_ f2_ f3_; have f4_ := f1_.symm; have f5_ := f3_.symm; clear f1_ f2_ f3_; subst f4_; subst f5_))
    have p161 : 0 ≤ (x54_2 : Int) := oda; have q161 : x54_2 < (t141.length : Int) := oda; obtain ⟨ad161, e161, hx161_0⟩ := Kd.at_int (Kd.R_reads' HO_7.out).2.2 x54_2 p161 q161; cases e161; replace p161 := eq_true p161; replace q161 := eq_true q161; have p51 : 0 ≤ (x54_2 : Int) := oda; have q51 : (x54_2 : Int) < ((x9_2.length : Int) : Int) := oda; obtain ⟨hx51_0, hf51_0⟩ := Kd.R_celln 0 HO_9.out (x54_2 : Int) p51 q51; replace p51 := eq_true p51; replace q51 := eq_true q51; have HP56 := Kd.R_putn HO_9.out (x54_2 : Int) (Int.tmod (wrap64 ((wrap64 ((rd x9_2 x54_2) + (wrap64 0))) + (wrap64 ((rd t144 x10_1) * (rd t141 x54_2))))) a0_0); rw [← Ny162.out] at HP56; have HQ56 := Aside0.mk HP56; clear HP56; refine st_ (S := fun w' => w'.cell? ⟨gb140, 0, none⟩ = some (.int .i64 a0_0) ∧ w'.cell? ⟨gb140, 1, none⟩ = some (.int .i64 a0_1) ∧ w'.cell? ⟨gb140, 2, none⟩ = some (.slice A0_2 l0_2.length c0_2) ∧ w'.cell? ⟨go21, (x54_2).toNat, none⟩ = some (.int .i64 (rd x9_2 x54_2)) ∧ w'.cell? (ad160.add (x10_1).toNat) = some (.int .i64 (rd t144 x10_1)) ∧ w'.cell? (ad161.add (x54_2).toNat) = some (.int .i64 (rd t141 x54_2))) (ds := [27]) 28 field_multiply.tab15 field_multiply.bits15 ⟨bc BK140 0, bc BK140 1, bc BK140 2, hx159_0, hx160_0, hx161_0⟩ fun hHeld HT_ HW_ => ?_
    generalize wr.drew = w53 at HO_7 HO_8 HO_9 BK140 HB HQ56 hf51_0 hx159_0 hx160_0 hx161_0 hx51_0 hHeld ⊢; refine pu 0 65 (bm 28 1) ?_; refine pu 1 66 (bm 28 3) ?_; refine pu 2 67 (bm 28 7) ?_; refine pu 3 68 (bm 28 15) ?_; refine pu 4 69 (bm 28 31) ?_; refine pu 6 71 (bm 28 95) ?_; refine pu 8 73 (bm 28 351) ?_; refine pu 10 75 (bm 28 1375) ?_; refine pu 13 78 (bm 28 9567) ?_; refine pu 14 79 (bm 28 25951) ?_; refine pu 15 80 (bm 28 58719) ?_; refine pu 17 82 (bm 28 189791) ?_; refine pu 18 83 (bm 28 451935) ?_; refine pu 19 84 (bm 28 976223) ?_; refine pu 23 88 (bm 28 9364831) ?_; refine take_ (i := 5) (N := some 70) (v := ?_) (a' := ?_) (bm 28 9364863) rfl rfl (take_ofW HT_.out HW_.out (by kernel_rfl)) (fun _ _ _ h => h) (Or.inl ⟨by rfl, ?_⟩) hHeld ?_ ?_; rotate_left
    ·rintro w' ⟨s0, s1, s2, s3, s4, s5⟩; go_simp; with_reducible rfl
    rotate_left
    ·simp only [Act.put, List.setIfInBounds_toArray, List.set_cons_zero, List.set_cons_succ, i64_w, i32_w]; rfl
    refine take_ (i := 7) (N := some 72) (v := ?_) (a' := ?_) (bm 28 9364991) rfl rfl (take_ofW HT_.out HW_.out (by kernel_rfl)) (fun _ _ _ h => h) (Or.inl ⟨by rfl, ?_⟩) hHeld ?_ ?_; rotate_left
    ·rintro w' ⟨s0, s1, s2, s3, s4, s5⟩; go_simp; with_reducible rfl
    rotate_left
    ·simp only [Act.put, List.setIfInBounds_toArray, List.set_cons_zero, List.set_cons_succ, i64_w, i32_w]; rfl
    refine pu 9 74 (bm 28 9365503) ?_; refine pu 11 76 (bm 28 9367551) ?_; refine pu 12 77 (bm 28 9371647) ?_; refine take_ (i := 16) (N := some 81) (v := ?_) (a' := ?_) (bm 28 9437183) rfl rfl (take_ofW HT_.out HW_.out (by kernel_rfl)) (fun _ _ _ h => h) (Or.inl ⟨by rfl, ?_⟩) hHeld ?_ ?_; rotate_left
    ·rintro w' ⟨s0, s1, s2, s3, s4, s5⟩; go_simp; with_reducible rfl
    rotate_left
    ·simp only [Act.put, List.setIfInBounds_toArray, List.set_cons_zero, List.set_cons_succ, i64_w, i32_w]; rfl
    refine take_ (i := 20) (N := some 85) (v := ?_) (a' := ?_) (bm 28 10485759) rfl rfl (take_ofW HT_.out HW_.out (by kernel_rfl)) (fun _ _ _ h => h) (Or.inl ⟨by rfl, ?_⟩) hHeld ?_ ?_; rotate_left
    ·rintro w' ⟨s0, s1, s2, s3, s4, s5⟩; go_simp; with_reducible rfl
    rotate_left
    ·simp only [Act.put, List.setIfInBounds_toArray, List.set_cons_zero, List.set_cons_succ, i64_w, i32_w]; rfl
    refine pu 21 86 (bm 28 12582911) ?_; refine pu 22 87 (bm 28 16777215) ?_; refine take_ (i := 24) (N := some 89) (v := ?_) (a' := ?_) (bm 28 33554431) rfl rfl (take_ofW HT_.out HW_.out (by kernel_rfl)) (fun _ _ _ h => h) (Or.inl ⟨by rfl, ?_⟩) hHeld ?_ ?_; rotate_left
    ·rintro w' ⟨s0, s1, s2, s3, s4, s5⟩; go_simp; with_reducible rfl
    rotate_left
    ·simp only [Act.put, List.setIfInBounds_toArray, List.set_cons_zero, List.set_cons_succ, i64_w, i32_w]; rfl
    refine pu 25 90 (bm 28 67108863) ?_; refine pu 26 91 (bm 28 134217727) ?_; refine last_ (i := 27) (N := none) (bm 28 268435455) rfl rfl (one_of HT_.out (by kernel_rfl)) (by decide) fun K hK => ?_
    refine skip_ (w1 := ?_) (by rfl) rfl ?_ ?_; rotate_left
    ·go_simp; rfl
    refine hK.out _ _ ?_; clear hK K; refine dn ?_; try go_wp2
    (try simp only [← hl9_2])
    go_roundg k2
    case measure => have := HK1.out; have := HK2.out; omega
    case rel => exact ⟨(y162), (wrap64 (x54_2 + 1)), rs, H', ⟨by have := HK1.out; have := HK2.out; omega⟩, ⟨by (try simp only [hl9_2]); (with_reducible repeat (first | apply Kd.R_alloc | apply Kd.R_drewN | apply Kd.R_drew)); exact Kd.R_mono (Kd.R_far (p := ⟨go21, (x54_2 : Int).toNat, none⟩) (Kd.R_mono HO_7.out (fun k_ hk => (⟨hk, fun e_ => hk.2 (by rw [e_]; rfl)⟩ : _ ∧ k_ ≠ go21))) (fun _ hk => hk.2) (.int .i64 (Int.tmod (wrap64 ((wrap64 ((rd x9_2 x54_2) + (wrap64 0))) + (wrap64 ((rd t144 x10_1) * (rd t141 x54_2))))) a0_0))) (fun _ hk => ⟨hk.1.1, hk.1.2⟩)⟩, ⟨by (try simp only [hl9_2]); (with_reducible repeat (first | apply Kd.R_alloc | apply Kd.R_drewN | apply Kd.R_drew)); exact Kd.R_mono (Kd.R_far (p := ⟨go21, (x54_2 : Int).toNat, none⟩) (Kd.R_mono HO_8.out (fun k_ hk => (⟨hk, fun e_ => hk.2 (by rw [e_]; rfl)⟩ : _ ∧ k_ ≠ go21))) (fun _ hk => hk.2) (.int .i64 (Int.tmod (wrap64 ((wrap64 ((rd x9_2 x54_2) + (wrap64 0))) + (wrap64 ((rd t144 x10_1) * (rd t141 x54_2))))) a0_0))) (fun _ hk => ⟨hk.1.1, hk.1.2⟩)⟩, ⟨by (try simp only [hl9_2]); (with_reducible repeat (first | apply Kd.R_alloc | apply Kd.R_drewN | apply Kd.R_drew)); exact HQ56.out⟩, ⟨by (try simp only [hl9_2]); (with_reducible repeat (first | refine blk_drewN ?_ _ | refine blk_drew ?_ | refine blk_alloc ?_ _)); refine blk_far ?_ (by have h_ := Kd.R_ne HO_9.out BK140.out (by decide); intro e_; exact h_ (by rw [e_]; rfl)) _; exact ba BK140⟩, ⟨bel⟩⟩
   rw [if_neg c30] at H; have c30b0 : decide (x54_2 < (x9_1.length : Int)) = false := decide_eq_false c30
   (try simp only [hl9_2] at c30b0)
   clear c30; have H' := Aside0.mk H; clear H; go_wp2
   (try simp only [← hl9_2])
   (try simp only [← hji17])
   go_roundg k2
   case measure => have := HK1.out; have := HK2.out; omega
   case rel => exact ⟨(x9_2), (wrap64 (x10_1 - 1)), rs, H', ⟨by have := HK1.out; have := HK2.out; omega⟩, ⟨by (try simp only [hl9_2]); (with_reducible repeat (first | apply Kd.R_alloc | apply Kd.R_drewN | apply Kd.R_drew)); exact HO_7.out⟩, ⟨by (try simp only [hl9_2]); (with_reducible repeat (first | apply Kd.R_alloc | apply Kd.R_drewN | apply Kd.R_drew)); exact HO_8.out⟩, ⟨by (try simp only [hl9_2]); (with_reducible repeat (first | apply Kd.R_alloc | apply Kd.R_drewN | apply Kd.R_drew)); exact HO_9.out⟩, ⟨by (try simp only [hl9_2]); exact ba BK140⟩, ⟨bel⟩⟩
  exact absurd trivial c20
 rw [if_neg c16] at H; have c16b0 : decide (0 ≤ x10_1) = false := decide_eq_false c16; clear c16; replace H := bz H; obtain ⟨t150, A57, H⟩ := H; obtain rfl := Option.some.inj H; obtain ⟨hcz58_0, hcz58_1, hcz58_2, hfz58_0, hfz58_1, hfz58_2⟩ := b3 BK140; obtain ⟨Ao59, co59, eo59⟩ := Kd.R_slice HO_9.out; subst eo59; go_wp2_with (first | ((with_reducible refine gate_callee (f := 133) rfl ?_); refine gl (some 96) Try.func133 #[.slice Ao59 x9_1.length co59, .int .i64 a0_0] ?_; (with_reducible refine (field_valueOf.calls k1 _ _ x9_1 a0_0 t150 _ ?side1 ?side2 A57.out).mono ?_); (case side1 => repeat (first | exact (Kd.R_reads' HO_9.out).2.2 | (with_reducible refine Kd.C_alloc ?_ _) | (with_reducible refine Kd.C_drewN ?_ _) | (with_reducible refine Kd.C_drew ?_))); (case side2 => exact (Kd.R_reads' HO_9.out).2.1); rintro e w' ⟨rfl, ⟨nd, rfl⟩⟩; refine ⟨_, rfl, ?_⟩))
 go_ret; exact ⟨ren, bel⟩
def field_powers.l0 : Nat → Int → List Int → List Bool → Int → Int → Int → List Int → Option (List Int)
 | 0, _, _, _, _, _, _, _ => none
 | k + 1, x2, x7, x8, x9, x141000, x141001, x141002 => if x9 = 0 then (some x7) else (if 0 ≤ x9 then (if x9 < (x8.length : Int) then (if rdOf false x8 x9 = true then (some x7) else (if x7.length < 17592186044416 then ((field_multiply.f k x141000 x141001 x141002 x9 x2).bind fun t153 => (field_powers.l0 k x2 (x7 ++ [x9]) (x8.set (x9 : Int).toNat true) t153 x141000 x141001 x141002)) else (none))) else (none)) else (none))
def field_powers.f (k : Nat) (a0_0 : Int) (a0_1 : Int) (l0_2 : List Int) (a1 : Int) (a2 : Int) : Option (List Int) := if 0 ≤ a1 then (if (a1 : Int).toNat ≤ 281474976710656 then ((some (List.replicate (a1 : Int).toNat false : List Bool)).bind fun y144 => (if 1 < (y144.length : Int) then (field_powers.l0 k a2 (([1] : List Int)) (y144.set (1 : Int).toNat true) a2 a0_0 a0_1 l0_2) else (none))) else (none)) else (none)
theorem field_powers.calls (k : Nat) (a0_0 : Int) (a0_1 : Int) (A0_2 : Option Addr) (c0_2 : Nat) (l0_2 : List Int) (a1 : Int) (a2 : Int) (r : List Int) (w : World) (hr0_2 : Kd.C (Kd.int .i64) w A0_2 l0_2.length l0_2) (hc0_2 : l0_2.length ≤ c0_2) (h : field_powers.f k a0_0 a0_1 l0_2 a1 a2 = some r) :
  Calls Try.prog 127 #[.agg #[.int .i64 a0_0, .int .i64 a0_1, .slice A0_2 l0_2.length c0_2], .int .i64 a1, .int .i64 a2] w fun e w' => ∃ v0_ : Value, e = .returned (v0_) ∧ Kd.R (Kd.int .i64) 3 w' w.heap.size (fun _ => True) v0_ r ∧ Below w.heap.size w w' := by
 have hu33 := Try.underlying33
 have HR0_2 := Aside0.mk hr0_2
 have HC0_2 := Aside0.mk hc0_2
 clear hr0_2 hc0_2
 have HB := Aside0.mk (Below.refl w.heap.size w)
 have H : (if 0 ≤ a1 then (if (a1 : Int).toNat ≤ 281474976710656 then ((some (List.replicate (a1 : Int).toNat false : List Bool)).bind fun y144 => (if 1 < (y144.length : Int) then (field_powers.l0 k a2 (([1] : List Int)) (y144.set (1 : Int).toNat true) a2 a0_0 a0_1 l0_2) else (none))) else (none)) else (none)) = some r := h
 clear h
 generalize hy141 : ((([1] : List Int)) : List Int) = y141 at H; have Ny141 := Aside0.mk hy141.symm; clear hy141
 replace H := ift H; obtain ⟨c4b0, c4b1, H⟩ := H
 replace H := ift H; obtain ⟨c5b0, c5b1, H⟩ := H
 generalize hy144 : ((List.replicate (a1 : Int).toNat false) : List Bool) = y144 at H; replace H := bs_ H; have Ny144 := Aside0.mk hy144.symm; clear hy144
 replace H := ifp H; obtain ⟨c6, H⟩ := H
 have c6b0 : decide (1 < (y144.length : Int)) = true := decide_eq_true c6
 have c6b1 : decide (1 < y144.length) = true := decide_eq_true (by omega)
 clear c6
 generalize hy147 : ((y144.set (1 : Int).toNat true) : List Bool) = y147 at H; have Ny147 := Aside0.mk hy147.symm; clear hy147
 have H' := Aside0.mk H
 clear H
 go_enter Try.func127, Try.ntmps127
 go_wp2_with (first | ((with_reducible refine gate_dst (N := 3) rfl ?_); refine bx (cs := #[.int .i64 a0_0, .int .i64 a0_1, .slice A0_2 l0_2.length c0_2]) (t := 33) ?_; intro gb140 hg w8 hbox hb; have BK140 := Aside0.mk (hbox); have GW140 := Aside0.mk ((by rw [hg]; exact bsz : w.heap.size ≤ gb140)); have GE140 := Aside0.mk ((by rw [hg]; exact bsz : w.heap.size ≤ gb140)); replace HB := bst hb; clear hb hbox hg) | ((with_reducible refine gate_dst (N := 10) rfl ?_); refine Kd.R_lit (Kd.int .i64) _ 3 ?hg (N := 10) ?hd (xs := ([1] : List Int)) (inner := [.int .i64 1]) (ok := fun _ => True) (okp := fun _ => True) ?hr ?hp (fun _ hk => hk) trivial (Below.refl _ _) (Nat.le_refl _) (by simp) ?_; (case hd => rfl); (case hg => rfl); (case hr => first | (go_simp; done) | (go_simp; rfl)); (case hp => exact (Reps.one (show Kd.M (Kd.int .i64) _ _ _ 1 [.int .i64 1] from rfl) (Reps.none _ _))); intro v142 w9 ho10 hb hg_ hnew_; clear hg_ hnew_; (first | rw [← Ny141.out] at ho10 | (simp only [Int.reduceToNat] at ho10; rw [← Ny141.out] at ho10)); have HO143 := Aside0.mk (Kd.R_lower ho10 bsz); replace BK140 := Aside0.mk (blk_below (g := gb140) (o := .cells #[.int .i64 a0_0, .int .i64 a0_1, .slice A0_2 l0_2.length c0_2] 33 (0, 0)) (ba BK140) hb); replace HB := bst hb; clear hb ho10) | ((with_reducible refine gate_dst (N := 12) rfl ?_); refine Kd.R_make Kd.bool _ 4 rfl (N := 12) rfl 142 _ _ rfl a1 rfl rfl Try.underlying142 (.bool false) 1 info4 rfl (by decide) (by omega) false (ok := fun _ => True) (okp := fun _ => True) rfl (fun _ hk => hk) trivial (oda) (Nat.le_trans (Nat.mul_le_mul_right _ (oda : a1.toNat ≤ 281474976710656)) (by omega)) (Below.refl _ _) (Nat.le_refl _) ?_; intro v145 w11 ho12 hb hg_ hnew_; clear hg_ hnew_; (first | rw [← Ny144.out] at ho12 | (simp only [Int.reduceToNat] at ho12; rw [← Ny144.out] at ho12)); replace HO143 := Aside0.mk (Kd.R_below (ra HO143) hb); have HO146 := Aside0.mk (Kd.R_lower ho12 bsz); replace BK140 := Aside0.mk (blk_below (g := gb140) (o := .cells #[.int .i64 a0_0, .int .i64 a0_1, .slice A0_2 l0_2.length c0_2] 33 (0, 0)) (ba BK140) hb); replace HB := bst hb; clear hb ho12; have p7 : 0 ≤ (1 : Int) := (by omega); have q7 : (1 : Int) < ((y144.length : Int) : Int) := oda; have qi7 : (1 < y144.length) = True := eq_true (by omega); obtain ⟨go7, co7, eo7, gb7, gl7, cl7, HG7⟩ := Kd.R_form HO146.out (by omega); (first | cases eo7 | (injection eo7 with ea_ en_ ec_; (first | subst ea_ | (injection ea_ with ea_; subst ea_)); subst ec_; clear en_)); have GB7 := Aside0.mk gb7; have GG7 := Aside0.mk HG7; clear gb7 gl7 HG7; obtain ⟨hx7_0, hf7_0⟩ := Kd.R_celln false HO146.out (1 : Int) p7 q7; (try rw [show ((1 : Int)).toNat = 1 from rfl] at hx7_0); (try simp only [Nat.reduceMul, Nat.zero_mul, Nat.zero_add, Nat.reduceAdd] at hx7_0); (try rw [show ((1 : Int)).toNat = 1 from rfl] at hf7_0); (try simp only [Nat.reduceMul, Nat.zero_mul, Nat.zero_add, Nat.reduceAdd] at hf7_0); replace p7 := eq_true p7; replace q7 := eq_true q7; obtain ⟨hy13_, hz13_⟩ := Kd.R_celln false HO146.out (1 : Int) (by omega) (oda); (try simp only [Int.reduceToNat, Int.toNat_zero, Int.toNat_ofNat, Nat.reduceMul, Nat.zero_mul, Nat.zero_add] at hy13_ hz13_); (try rw [show ((1 : Int)).toNat = 1 from rfl] at hy13_); (try rw [show ((1 : Int)).toNat = 1 from rfl] at hz13_); have HP13 := Kd.R_putg HO146.out (1 : Int) true) | ((with_reducible refine gate_store (t := 4) (p := 14) rfl ?_); refine store_event (t := 4) (p := 14) (v := ?vo_w14) (w1 := (w11.setCell ⟨go7, (1 : Int).toNat, none⟩ (.bool true))) ?hg ?ho ?hn ?hr ?_; (case ho => rfl); (case hg => rfl); (case hn => rfl); (case hr => first | (go_simp; done) | (go_simp; rfl)); intro w14 hw; have hg : w11.grownBy w14 (some go7) := (by rw [hw]; exact HP13.2); have hp_ : Kd.R Kd.bool 4 w14 w.heap.size (fun _ => True) (.slice (some ⟨go7, 0, none⟩) y144.length co7) y147 := (by rw [hw, Ny147.out]; exact HP13.1); clear HP13; replace BK140 := Aside0.mk (blk_grown (g := gb140) (o := .cells #[.int .i64 a0_0, .int .i64 a0_1, .slice A0_2 l0_2.length c0_2] 33 (0, 0)) (ba BK140) hg (Kd.R_ne HO146.out BK140.out (by decide))); replace HO143 := Aside0.mk (Kd.R_over' (v := (.slice (some ⟨go7, 0, none⟩) y144.length co7)) (ra HO143) (Kd.R_typed HO146.out) (by decide) hg); replace HO146 := Aside0.mk (hp_); replace HB := Aside0.mk ((by rw [hw]; exact below_set (HB.out) GB7.out : Below w.heap.size w w14)); clear hg hw hp_))
 go_loopg [7, 9] k (fun kq v7 v9 w' => ∃ (x7_1 : List Int) (x8_1 : List Bool) (x9_1 : Int), v9 = .int .i64 x9_1 ∧ Aside0 (field_powers.l0 kq a2 x7_1 x8_1 x9_1 a0_0 a0_1 l0_2 = some r) ∧ Aside0 (kq ≤ k) ∧ Aside0 (Kd.R (Kd.int .i64) 3 w' w.heap.size (fun _ => True) v7 x7_1) ∧ Aside0 (Kd.R Kd.bool 4 w' w.heap.size (fun _ => True) (.slice (some ⟨go7, 0, none⟩) y144.length co7) x8_1) ∧ Aside0 (w'.heap[gb140]? = some (.cells #[.int .i64 a0_0, .int .i64 a0_1, (.slice A0_2 l0_2.length c0_2)] 33 (0, 0))) ∧ Aside0 (Below w.heap.size w w'))
 case atStart => exact ⟨(y141), (y147), (a2), rs, H', ⟨Nat.le_refl _⟩, ⟨ra HO143⟩, ⟨ra HO146⟩, ⟨ba BK140⟩, ⟨bel⟩⟩
 clear H'
 obtain ⟨x7_1, x8_1, x9_1, rfl, HA, HK1, HO_7, HO_8, BK140, HB⟩ := hrel
 have hl8_1 := (Kd.R_reads' HO_8.out).1
 rw [hl8_1] at HO_8
 (try simp only [hl8_1])
 (try simp only [hl8_1] at BK140)
 (try simp only [hl8_1] at HO_7)
 rcases gk with _ | k1
 ·exact absurd HA.out (by simp [field_powers.l0])
 have H := HA.out
 clear HA
 simp only [field_powers.l0] at H
 by_cases c15 : x9_1 = 0
 ·rw [if_pos c15] at H
  have c15b0 : (x9_1 == 0) = true := beq_iff_eq.mpr c15
  have c15b1 : (x9_1 != 0) = false := bne_eq_false_iff_eq.mpr c15
  clear c15
  obtain rfl := Option.some.inj H
  go_wp2
  go_ret
  exact ⟨_, ren, by (with_reducible repeat (first | apply Kd.R_alloc | apply Kd.R_drewN | apply Kd.R_drew)); exact HO_7.out, bel⟩
 rw [if_neg c15] at H
 have c15b0 : (x9_1 == 0) = false := beq_eq_false_iff_ne.mpr c15
 have c15b1 : (x9_1 != 0) = true := bne_iff_ne.mpr c15
 replace H := ifd H; obtain ⟨c16b0, H⟩ := H
 replace H := ifp H; obtain ⟨c17, H⟩ := H
 have c17b0 : decide (x9_1 < (x8_1.length : Int)) = true := decide_eq_true c17
 (try simp only [hl8_1] at c17b0)
 clear c17
 obtain ⟨bq18, hbq18⟩ : ∃ b_ : Bool, b_ = (rdOf false x8_1 x9_1) := ⟨_, rfl⟩
 replace H : (if bq18 = true then (some x7_1) else (if x7_1.length < 17592186044416 then ((field_multiply.f k1 a0_0 a0_1 l0_2 x9_1 a2).bind fun t153 => (field_powers.l0 k1 a2 (x7_1 ++ [x9_1]) (x8_1.set (x9_1 : Int).toNat true) t153 a0_0 a0_1 l0_2)) else (none))) = some r := by rw [← hbq18] at H; exact H
 have Nbq18 := Aside0.mk hbq18
 clear hbq18
 by_cases c19 : bq18 = true
 ·subst c19
  have H1 : (some x7_1) = some r := by rw [if_pos rfl] at H; exact H
  clear H
  have H := H1
  clear H1
  obtain rfl := Option.some.inj H
  have p148 : 0 ≤ (x9_1 : Int) := oda
  have q148 : x9_1 < (x8_1.length : Int) := oda
  obtain ⟨ad148, e148, hx148_0⟩ := Kd.at_bool (Kd.R_reads' HO_8.out).2.2 x9_1 p148 q148
  (try rw [← Nbq18.out] at hx148_0)
  obtain rfl : (⟨go7, 0, none⟩ : Addr) = ad148 := (by injection e148)
  (first | simp only [add_plain] at hx148_0 | simp only [add_at] at hx148_0 | simp only [Addr.add, Nat.zero_add] at hx148_0 | skip)
  replace p148 := eq_true p148
  replace q148 := eq_true q148
  go_wp2
  go_ret
  exact ⟨_, ren, by (with_reducible repeat (first | apply Kd.R_alloc | apply Kd.R_drewN | apply Kd.R_drew)); exact HO_7.out, bel⟩
 replace c19 := Bool.eq_false_iff.mpr c19
 subst c19
 have H1 : (if x7_1.length < 17592186044416 then ((field_multiply.f k1 a0_0 a0_1 l0_2 x9_1 a2).bind fun t153 => (field_powers.l0 k1 a2 (x7_1 ++ [x9_1]) (x8_1.set (x9_1 : Int).toNat true) t153 a0_0 a0_1 l0_2)) else (none)) = some r := by rw [if_neg (show ¬ (false = true) by decide)] at H; exact H
 clear H
 have H := H1
 clear H1
 generalize hy149 : ((x8_1.set (x9_1 : Int).toNat true) : List Bool) = y149 at H; have Ny149 := Aside0.mk hy149.symm; clear hy149
 replace H := ifp H; obtain ⟨c21, H⟩ := H
 have LMc21 := Aside0.mk c21
 clear c21
 generalize hy150 : ((x7_1 ++ [x9_1]) : List Int) = y150 at H; have Ny150 := Aside0.mk hy150.symm; clear hy150
 replace H := bz H; obtain ⟨t153, A22, H⟩ := H
 have H' := Aside0.mk H
 clear H
 have p148 : 0 ≤ (x9_1 : Int) := oda
 have q148 : x9_1 < (x8_1.length : Int) := oda
 obtain ⟨ad148, e148, hx148_0⟩ := Kd.at_bool (Kd.R_reads' HO_8.out).2.2 x9_1 p148 q148
 (try rw [← Nbq18.out] at hx148_0)
 obtain rfl : (⟨go7, 0, none⟩ : Addr) = ad148 := (by injection e148)
 (first | simp only [add_plain] at hx148_0 | simp only [add_at] at hx148_0 | simp only [Addr.add, Nat.zero_add] at hx148_0 | skip)
 replace p148 := eq_true p148
 replace q148 := eq_true q148
 have p20 : 0 ≤ (x9_1 : Int) := oda
 have q20 : (x9_1 : Int) < ((x8_1.length : Int) : Int) := oda
 obtain ⟨hx20_0, hf20_0⟩ := Kd.R_celln false HO_8.out (x9_1 : Int) p20 q20
 replace p20 := eq_true p20
 replace q20 := eq_true q20
 have HP23 := Kd.R_putg HO_8.out (x9_1 : Int) true
 go_wp2_with (first | ((with_reducible refine gate_store (t := 4) (p := 31) rfl ?_); refine store_event (t := 4) (p := 31) (v := ?vo_w24) (w1 := (wr.setCell ⟨go7, (x9_1 : Int).toNat, none⟩ (.bool true))) ?hg ?ho ?hn ?hr ?_; (case ho => rfl); (case hg => rfl); (case hn => rfl); (case hr => first | (go_simp; done) | (go_simp; rfl)); intro w24 hw; have hg : wr.grownBy w24 (some go7) := (by rw [hw]; exact HP23.2); have hp_ : Kd.R Kd.bool 4 w24 w.heap.size (fun _ => True) (.slice (some ⟨go7, 0, none⟩) x8_1.length co7) y149 := (by rw [hw, Ny149.out]; exact HP23.1); clear HP23; replace HO_7 := Aside0.mk (Kd.R_over' (v := (.slice (some ⟨go7, 0, none⟩) x8_1.length co7)) (ra HO_7) (Kd.R_typed HO_8.out) (by decide) hg); replace BK140 := Aside0.mk (blk_grown (g := gb140) (o := .cells #[.int .i64 a0_0, .int .i64 a0_1, .slice A0_2 l0_2.length c0_2] 33 (0, 0)) (ba BK140) hg (Kd.R_ne HO_8.out BK140.out (by decide))); replace HO_8 := Aside0.mk (hp_); replace HB := Aside0.mk ((by rw [hw]; exact below_set (HB.out) GB7.out : Below w.heap.size w w24)); clear hg hw hp_) | ((with_reducible refine gate_builtin (b := .append) (xs := #[.tmp 32, .tmp 34]) rfl ?_); at_builtin; refine Kd.R_append (Kd.int .i64) (w0 := w) w.heap.size rfl (.tmp 32) (.tmp 34) 31 3 (.int .i64 0) 8 rfl Try.underlying31 info3 rfl (by decide) (by omega) u7 x7_1 x9_1 [.int .i64 x9_1] (fun _ => True) (fun _ => False) rfl rfl ?aP (fun _ hk => hk.elim) ?aF ?aO ?aB ?aS ?aL ?_; (case aP => exact rfl); (case aB => exact bel); (case aF => exact (fun _ _ => trivial)); (case aO => exact (ra HO_7)); (case aS => exact bsz); (case aL => have := LMc21.out; omega); intro v151 w25 ho hb hg hat; rw [← Ny150.out] at ho; replace HO_8 := Aside0.mk (Kd.R_over' (ra HO_8) (Kd.R_typed (ra HO_7)) (by decide) hg); replace BK140 := Aside0.mk (blk_grown (g := gb140) (o := .cells #[.int .i64 a0_0, .int .i64 a0_1, .slice A0_2 l0_2.length c0_2] 33 (0, 0)) (ba BK140) hg (Kd.R_ne HO_7.out BK140.out (by decide))); replace HB := Aside0.mk (hb); have HO152 := Aside0.mk (ho); clear HO_7; clear ho hb hg hat; obtain ⟨hcz26_0, hcz26_1, hcz26_2, hfz26_0, hfz26_1, hfz26_2⟩ := b3 BK140) | ((with_reducible refine gate_callee (f := 128) rfl ?_); refine gl (some 28) Try.func128 #[.agg #[.int .i64 a0_0, .int .i64 a0_1, .slice A0_2 l0_2.length c0_2], .int .i64 x9_1, .int .i64 a2] ?_; (with_reducible refine (field_multiply.calls k1 a0_0 a0_1 _ _ l0_2 x9_1 a2 t153 _ ?side1 ?side2 A22.out).mono ?_); (case side1 => exact cb HR0_2); (case side2 => exact HC0_2.out); rintro e w27 ⟨rfl, hb⟩; refine ⟨_, rfl, ?_⟩; replace HO_8 := Aside0.mk (Kd.R_below (ra HO_8) hb); replace HO152 := Aside0.mk (Kd.R_below (ra HO152) hb); replace BK140 := Aside0.mk (blk_below (g := gb140) (o := .cells #[.int .i64 a0_0, .int .i64 a0_1, .slice A0_2 l0_2.length c0_2] 33 (0, 0)) (ba BK140) hb); replace HB := bst hb))
 (try simp only [← hl8_1])
 go_roundg k1
 case measure => have := HK1.out; omega
 case rel => exact ⟨(y150), (y149), (t153), rs, H', ⟨by have := HK1.out; omega⟩, ⟨by (try simp only [hl8_1]); (with_reducible repeat (first | apply Kd.R_alloc | apply Kd.R_drewN | apply Kd.R_drew)); exact HO152.out⟩, ⟨by (try simp only [hl8_1]); (with_reducible repeat (first | apply Kd.R_alloc | apply Kd.R_drewN | apply Kd.R_drew)); exact HO_8.out⟩, ⟨by (try simp only [hl8_1]); exact ba BK140⟩, ⟨bel⟩⟩
def field_generator.l0 : Nat → Int → Int → Int → Int → List Int → Option (List Int)
 | 0, _, _, _, _, _ => none
 | k + 1, x1, x5, x155000, x155001, x155002 => if x5 < x1 then ((field_powers.f k x155000 x155001 x155002 x1 x5).bind fun t155 => (if (t155.length : Int) = (wrap64 (x1 - 1)) then (if 0 ≤ (wrap64 (x1 - 2)) then (if (wrap64 (x1 - 2)) < (t155.length : Int) then ((field_multiply.f k x155000 x155001 x155002 (rd t155 (wrap64 (x1 - 2))) x5).bind fun t159 => (if t159 = 1 then (some t155) else (field_generator.l0 k x1 (wrap64 (x5 + 1)) x155000 x155001 x155002))) else (none)) else (none)) else (field_generator.l0 k x1 (wrap64 (x5 + 1)) x155000 x155001 x155002))) else (some ([] : List Int))
def field_generator.f (k : Nat) (a0_0 : Int) (a0_1 : Int) (l0_2 : List Int) (a1 : Int) : Option (List Int) := field_generator.l0 k a1 1 a0_0 a0_1 l0_2
def field_generator.T5 : Bool × List (List Nat × List Nat) := (true, [([], []), ([0], [0]), ([], []), ([2], [2]), ([1, 3], [1, 3]), ([4], [4]), ([5], [5]), ([5], [5]), ([5], [5]), ([8, 5], [5, 8]), ([7, 9, 5], [5, 7, 9]), ([10, 5], [5, 10]), ([5], [5]), ([6, 11, 12, 5, 5], [5, 6, 11, 12]), ([13, 5], [5, 13]), ([5, 14], [5, 14])])
def field_generator.B5 : List Nat := [0, 1, 0, 4, 15, 31, 63, 63, 63, 319, 959, 1983, 63, 8191, 16383, 32767]
theorem field_generator.tab5 : rtab .any (opsOf Try.f106 5) = field_generator.T5 := by kernel_rfl
theorem field_generator.bits5 : waitsOk field_generator.T5.2 field_generator.B5 = true := by kernel_rfl
theorem field_generator.calls (k : Nat) (a0_0 : Int) (a0_1 : Int) (A0_2 : Option Addr) (c0_2 : Nat) (l0_2 : List Int) (a1 : Int) (r : List Int) (w : World) (hr0_2 : Kd.C (Kd.int .i64) w A0_2 l0_2.length l0_2) (hc0_2 : l0_2.length ≤ c0_2) (h : field_generator.f k a0_0 a0_1 l0_2 a1 = some r) :
  Calls Try.prog 106 #[.agg #[.int .i64 a0_0, .int .i64 a0_1, .slice A0_2 l0_2.length c0_2], .int .i64 a1] w fun e w' => ∃ v0_ : Value, e = .returned (v0_) ∧ (Kd.R (Kd.int .i64) 3 w' w.heap.size (fun _ => True) v0_ r ∧ (r = [] → v0_ = .slice none 0 0)) ∧ Below w.heap.size w w' := by
 have hu33 := Try.underlying33; have HR0_2 := Aside0.mk hr0_2; have HC0_2 := Aside0.mk hc0_2; clear hr0_2 hc0_2; have HB := Aside0.mk (Below.refl w.heap.size w); have H : (field_generator.l0 k a1 1 a0_0 a0_1 l0_2) = some r := h; clear h; have H' := Aside0.mk H; clear H; go_enter Try.func106, Try.ntmps106; go_wp2_with (first | ((with_reducible refine gate_dst (N := 2) rfl ?_); refine bx (cs := #[.int .i64 a0_0, .int .i64 a0_1, .slice A0_2 l0_2.length c0_2]) (t := 33) ?_; intro gb154 hg w3 hbox hb; have BK154 := Aside0.mk (hbox); have GW154 := Aside0.mk ((by rw [hg]; exact bsz : w.heap.size ≤ gb154)); have GE154 := Aside0.mk ((by rw [hg]; exact bsz : w.heap.size ≤ gb154)); replace HB := bst hb; clear hb hbox hg))
 go_loopg [5] k (fun kq v5 w' => ∃ (x5_1 : Int), v5 = .int .i64 x5_1 ∧ Aside0 (field_generator.l0 kq a1 x5_1 a0_0 a0_1 l0_2 = some r) ∧ Aside0 (kq ≤ k) ∧ Aside0 (w'.heap[gb154]? = some (.cells #[.int .i64 a0_0, .int .i64 a0_1, (.slice A0_2 l0_2.length c0_2)] 33 (0, 0))) ∧ Aside0 (Below w.heap.size w w'))
 case atStart => exact ⟨(1), rs, H', ⟨Nat.le_refl _⟩, ⟨ba BK154⟩, ⟨bel⟩⟩
 clear H'; obtain ⟨x5_1, rfl, HA, HK1, BK154, HB⟩ := hrel; rcases gk with _ | k1
 ·exact absurd HA.out (by simp [field_generator.l0])
 have H := HA.out; clear HA; simp only [field_generator.l0] at H
 by_cases c4 : x5_1 < a1
 ·rw [if_pos c4] at H; have c4b0 : decide (x5_1 < a1) = true := decide_eq_true c4; clear c4; replace H := bz H; obtain ⟨t155, A5, H⟩ := H
  by_cases c6 : (t155.length : Int) = (wrap64 (a1 - 1))
  ·rw [if_pos c6] at H; have c6b0 : ((t155.length : Int) == (wrap64 (a1 - 1))) = true := beq_iff_eq.mpr c6; have c6b1 : ((t155.length : Int) != (wrap64 (a1 - 1))) = false := bne_eq_false_iff_eq.mpr c6; clear c6; generalize hji7 : (wrap64 (a1 - 2)) = ji7 at H
   (try rw [hji7] at A5)
   have hji7w : (IntKind.i64.wrap (a1 - 2)) = ji7 := (i64_w _).trans hji7; replace H := ifd H; obtain ⟨c8b0, H⟩ := H; replace H := ifd H; obtain ⟨c9b0, H⟩ := H; replace H := bz H; obtain ⟨t159, A10, H⟩ := H
   by_cases c11 : t159 = 1
   ·rw [if_pos c11] at H; have c11b0 : (t159 == 1) = true := beq_iff_eq.mpr c11; have c11b1 : (t159 != 1) = false := bne_eq_false_iff_eq.mpr c11; clear c11; obtain rfl := Option.some.inj H; obtain ⟨hcz12_0, hcz12_1, hcz12_2, hfz12_0, hfz12_1, hfz12_2⟩ := b3 BK154; try go_wp2_with (first | ((with_reducible refine gate_callee (f := 127) rfl ?_); refine gl (some 15) Try.func127 #[.agg #[.int .i64 a0_0, .int .i64 a0_1, .slice A0_2 l0_2.length c0_2], .int .i64 a1, .int .i64 x5_1] ?_; (with_reducible refine (field_powers.calls k1 a0_0 a0_1 _ _ l0_2 a1 x5_1 t155 _ ?side1 ?side2 A5.out).mono ?_); (case side1 => exact cb HR0_2); (case side2 => exact HC0_2.out); rintro e w13 ⟨v156, rfl, ho0, hb⟩; refine ⟨_, rfl, ?_⟩; have HO157 := Aside0.mk (Kd.R_lower ho0 bsz); replace BK154 := Aside0.mk (blk_below (g := gb154) (o := .cells #[.int .i64 a0_0, .int .i64 a0_1, .slice A0_2 l0_2.length c0_2] 33 (0, 0)) (ba BK154) hb); replace HB := bst hb))
    replace HO157 := Aside0.mk (Kd.R_drew HO157.out); replace BK154 := Aside0.mk (blk_drew BK154.out); replace HB := Aside0.mk (below_drew1 HB.out); obtain ⟨Ao15, co15, eo15⟩ := Kd.R_slice HO157.out; (first | subst eo15 | (injection eo15 with f1_ f2_ f3_; have f4_ := f1_.symm; have f5_ := f3_.symm; clear f1_ f2_ f3_; subst f4_; subst f5_))
    have p158 : 0 ≤ ((ji7) : Int) := oda; have q158 : (ji7) < (t155.length : Int) := oda; obtain ⟨ad158, e158, hx158_0⟩ := Kd.at_int (Kd.R_reads' HO157.out).2.2 (ji7) p158 q158; cases e158; replace p158 := eq_true p158; replace q158 := eq_true q158; refine st_ (S := fun w' => w'.cell? ⟨gb154, 0, none⟩ = some (.int .i64 a0_0) ∧ w'.cell? ⟨gb154, 1, none⟩ = some (.int .i64 a0_1) ∧ w'.cell? ⟨gb154, 2, none⟩ = some (.slice A0_2 l0_2.length c0_2) ∧ w'.cell? (ad158.add ((ji7)).toNat) = some (.int .i64 (rd t155 (ji7)))) (ds := []) 16 field_generator.tab5 field_generator.bits5 ⟨bc BK154 0, bc BK154 1, bc BK154 2, hx158_0⟩ fun hHeld HT_ HW_ => ?_
    generalize w13.drew = w14 at HO157 BK154 HB hx158_0 hHeld ⊢; refine pu 0 16 (bm 16 1) ?_; refine pu 1 17 (bm 16 3) ?_; refine pu 2 18 (bm 16 7) ?_; refine pu 3 19 (bm 16 15) ?_; refine pu 4 20 (bm 16 31) ?_; refine pu 5 21 (bm 16 63) ?_; refine pu 7 23 (bm 16 191) ?_; refine pu 8 24 (bm 16 447) ?_; refine pu 9 25 (bm 16 959) ?_; refine pu 10 26 (bm 16 1983) ?_; refine pu 12 28 (bm 16 6079) ?_; refine take_ (i := 6) (N := some 22) (v := ?_) (a' := ?_) (bm 16 6143) rfl rfl (take_ofW HT_.out HW_.out (by kernel_rfl)) (fun _ _ _ h => h) (Or.inl ⟨by rfl, ?_⟩) hHeld ?_ ?_; rotate_left
    ·rintro w' ⟨s0, s1, s2, s3⟩; go_simp; with_reducible rfl
    rotate_left
    ·simp only [Act.put, List.setIfInBounds_toArray, List.set_cons_zero, List.set_cons_succ, i64_w, i32_w]; rfl
    refine take_ (i := 11) (N := some 27) (v := ?_) (a' := ?_) (bm 16 8191) rfl rfl (take_ofW HT_.out HW_.out (by kernel_rfl)) (fun _ _ _ h => h) (Or.inl ⟨by rfl, ?_⟩) hHeld ?_ ?_; rotate_left
    ·rintro w' ⟨s0, s1, s2, s3⟩; go_simp; with_reducible rfl
    rotate_left
    ·simp only [Act.put, List.setIfInBounds_toArray, List.set_cons_zero, List.set_cons_succ, i64_w, i32_w]; rfl
    refine on 13 29 (bm 16 16383) fun K hK => ?_
    refine goes_ Try.func128 (by kernel_rfl) rfl #[.agg #[.int .i64 a0_0, .int .i64 a0_1, .slice A0_2 l0_2.length c0_2], .int .i64 (rd t155 (ji7)), .int .i64 x5_1] (by rfl) rfl rfl (by (try simp only [List.map_toArray, List.map_cons, List.map_nil]); first | done | (simp only [hji7]; rfl) | rfl | (simp only [List.length_drop, List.length_take]; rfl)) ?_
    with_reducible refine (field_multiply.calls k1 a0_0 a0_1 _ _ l0_2 (rd t155 (ji7)) x5_1 t159 _ ?side1 ?side2 A10.out).mono ?_
    (case side1 => exact cb HR0_2)
    (case side2 => exact HC0_2.out)
    rintro e w16 ⟨rfl, hb⟩; have HS3_ := (hb.cell (World.block_lt_of_cell? _ _ (hHeld.2.2.2))).trans (hHeld.2.2.2); refine ⟨_, rfl, ?_⟩; replace HO157 := Aside0.mk (Kd.R_below (ra HO157) hb); replace BK154 := Aside0.mk (blk_below (g := gb154) (o := .cells #[.int .i64 a0_0, .int .i64 a0_1, .slice A0_2 l0_2.length c0_2] 33 (0, 0)) (ba BK154) hb); replace HB := bst hb; refine hK.out _ _ ⟨bc BK154 0, bc BK154 1, bc BK154 2, HS3_⟩ (fun hHeld => ?_); clear hK K; refine nmz 29 ?_; refine pu 14 30 (bm 16 32767) ?_; refine pu 15 31 (bm 16 65535) ?_; refine dn ?_; try go_wp2
    go_ret; exact ⟨_, by first | rfl | (simp [errW_none, errW_some] <;> rfl) | (simp only [← hji7]; first | rfl | (simp [errW_none, errW_some] <;> rfl)) | (simp [*, errW_none, errW_some] <;> rfl), ⟨by (with_reducible repeat (first | apply Kd.R_alloc | apply Kd.R_drewN | apply Kd.R_drew)); exact HO157.out, fun h0_ => absurd (of_decide_eq_true (p := (ji7) < (t155.length : Int)) (by with_reducible assumption)) (by have h1_ := of_decide_eq_true (p := 0 ≤ (ji7)) (by with_reducible assumption); rw [h0_]; simp; omega)⟩, bel⟩
   rw [if_neg c11] at H; have c11b0 : (t159 == 1) = false := beq_eq_false_iff_ne.mpr c11; have c11b1 : (t159 != 1) = true := bne_iff_ne.mpr c11; have H' := Aside0.mk H; clear H; obtain ⟨hcz17_0, hcz17_1, hcz17_2, hfz17_0, hfz17_1, hfz17_2⟩ := b3 BK154; try go_wp2_with (first | ((with_reducible refine gate_callee (f := 127) rfl ?_); refine gl (some 15) Try.func127 #[.agg #[.int .i64 a0_0, .int .i64 a0_1, .slice A0_2 l0_2.length c0_2], .int .i64 a1, .int .i64 x5_1] ?_; (with_reducible refine (field_powers.calls k1 a0_0 a0_1 _ _ l0_2 a1 x5_1 t155 _ ?side1 ?side2 A5.out).mono ?_); (case side1 => exact cb HR0_2); (case side2 => exact HC0_2.out); rintro e w18 ⟨v156, rfl, ho0, hb⟩; refine ⟨_, rfl, ?_⟩; have HO157 := Aside0.mk (Kd.R_lower ho0 bsz); replace BK154 := Aside0.mk (blk_below (g := gb154) (o := .cells #[.int .i64 a0_0, .int .i64 a0_1, .slice A0_2 l0_2.length c0_2] 33 (0, 0)) (ba BK154) hb); replace HB := bst hb))
   replace HO157 := Aside0.mk (Kd.R_drew HO157.out); replace BK154 := Aside0.mk (blk_drew BK154.out); replace HB := Aside0.mk (below_drew1 HB.out); obtain ⟨Ao20, co20, eo20⟩ := Kd.R_slice HO157.out; (first | subst eo20 | (injection eo20 with f1_ f2_ f3_; have f4_ := f1_.symm; have f5_ := f3_.symm; clear f1_ f2_ f3_; subst f4_; subst f5_))
   have p158 : 0 ≤ ((ji7) : Int) := oda; have q158 : (ji7) < (t155.length : Int) := oda; obtain ⟨ad158, e158, hx158_0⟩ := Kd.at_int (Kd.R_reads' HO157.out).2.2 (ji7) p158 q158; cases e158; replace p158 := eq_true p158; replace q158 := eq_true q158; refine st_ (S := fun w' => w'.cell? ⟨gb154, 0, none⟩ = some (.int .i64 a0_0) ∧ w'.cell? ⟨gb154, 1, none⟩ = some (.int .i64 a0_1) ∧ w'.cell? ⟨gb154, 2, none⟩ = some (.slice A0_2 l0_2.length c0_2) ∧ w'.cell? (ad158.add ((ji7)).toNat) = some (.int .i64 (rd t155 (ji7)))) (ds := []) 16 field_generator.tab5 field_generator.bits5 ⟨bc BK154 0, bc BK154 1, bc BK154 2, hx158_0⟩ fun hHeld HT_ HW_ => ?_
   generalize w18.drew = w19 at HO157 BK154 HB hx158_0 hHeld ⊢; refine pu 0 16 (bm 16 1) ?_; refine pu 1 17 (bm 16 3) ?_; refine pu 2 18 (bm 16 7) ?_; refine pu 3 19 (bm 16 15) ?_; refine pu 4 20 (bm 16 31) ?_; refine pu 5 21 (bm 16 63) ?_; refine pu 7 23 (bm 16 191) ?_; refine pu 8 24 (bm 16 447) ?_; refine pu 9 25 (bm 16 959) ?_; refine pu 10 26 (bm 16 1983) ?_; refine pu 12 28 (bm 16 6079) ?_; refine take_ (i := 6) (N := some 22) (v := ?_) (a' := ?_) (bm 16 6143) rfl rfl (take_ofW HT_.out HW_.out (by kernel_rfl)) (fun _ _ _ h => h) (Or.inl ⟨by rfl, ?_⟩) hHeld ?_ ?_; rotate_left
   ·rintro w' ⟨s0, s1, s2, s3⟩; go_simp; with_reducible rfl
   rotate_left
   ·simp only [Act.put, List.setIfInBounds_toArray, List.set_cons_zero, List.set_cons_succ, i64_w, i32_w]; rfl
   refine take_ (i := 11) (N := some 27) (v := ?_) (a' := ?_) (bm 16 8191) rfl rfl (take_ofW HT_.out HW_.out (by kernel_rfl)) (fun _ _ _ h => h) (Or.inl ⟨by rfl, ?_⟩) hHeld ?_ ?_; rotate_left
   ·rintro w' ⟨s0, s1, s2, s3⟩; go_simp; with_reducible rfl
   rotate_left
   ·simp only [Act.put, List.setIfInBounds_toArray, List.set_cons_zero, List.set_cons_succ, i64_w, i32_w]; rfl
   refine on 13 29 (bm 16 16383) fun K hK => ?_
   refine goes_ Try.func128 (by kernel_rfl) rfl #[.agg #[.int .i64 a0_0, .int .i64 a0_1, .slice A0_2 l0_2.length c0_2], .int .i64 (rd t155 (ji7)), .int .i64 x5_1] (by rfl) rfl rfl (by (try simp only [List.map_toArray, List.map_cons, List.map_nil]); first | done | (simp only [hji7]; rfl) | rfl | (simp only [List.length_drop, List.length_take]; rfl)) ?_
   with_reducible refine (field_multiply.calls k1 a0_0 a0_1 _ _ l0_2 (rd t155 (ji7)) x5_1 t159 _ ?side1 ?side2 A10.out).mono ?_
   (case side1 => exact cb HR0_2)
   (case side2 => exact HC0_2.out)
   rintro e w21 ⟨rfl, hb⟩; have HS3_ := (hb.cell (World.block_lt_of_cell? _ _ (hHeld.2.2.2))).trans (hHeld.2.2.2); refine ⟨_, rfl, ?_⟩; replace HO157 := Aside0.mk (Kd.R_below (ra HO157) hb); replace BK154 := Aside0.mk (blk_below (g := gb154) (o := .cells #[.int .i64 a0_0, .int .i64 a0_1, .slice A0_2 l0_2.length c0_2] 33 (0, 0)) (ba BK154) hb); replace HB := bst hb; refine hK.out _ _ ⟨bc BK154 0, bc BK154 1, bc BK154 2, HS3_⟩ (fun hHeld => ?_); clear hK K; refine nmz 29 ?_; refine pu 14 30 (bm 16 32767) ?_; refine pu 15 31 (bm 16 65535) ?_; refine dn ?_; try go_wp2
   go_roundg k1
   case measure => have := HK1.out; omega
   case rel => exact ⟨(wrap64 (x5_1 + 1)), rs, H', ⟨by have := HK1.out; omega⟩, ⟨ba BK154⟩, ⟨bel⟩⟩
  rw [if_neg c6] at H; have c6b0 : ((t155.length : Int) == (wrap64 (a1 - 1))) = false := beq_eq_false_iff_ne.mpr c6; have c6b1 : ((t155.length : Int) != (wrap64 (a1 - 1))) = true := bne_iff_ne.mpr c6; have H' := Aside0.mk H; clear H; obtain ⟨hcz22_0, hcz22_1, hcz22_2, hfz22_0, hfz22_1, hfz22_2⟩ := b3 BK154; try go_wp2_with (first | ((with_reducible refine gate_callee (f := 127) rfl ?_); refine gl (some 15) Try.func127 #[.agg #[.int .i64 a0_0, .int .i64 a0_1, .slice A0_2 l0_2.length c0_2], .int .i64 a1, .int .i64 x5_1] ?_; (with_reducible refine (field_powers.calls k1 a0_0 a0_1 _ _ l0_2 a1 x5_1 t155 _ ?side1 ?side2 A5.out).mono ?_); (case side1 => exact cb HR0_2); (case side2 => exact HC0_2.out); rintro e w23 ⟨v156, rfl, ho0, hb⟩; refine ⟨_, rfl, ?_⟩; have HO157 := Aside0.mk (Kd.R_lower ho0 bsz); replace BK154 := Aside0.mk (blk_below (g := gb154) (o := .cells #[.int .i64 a0_0, .int .i64 a0_1, .slice A0_2 l0_2.length c0_2] 33 (0, 0)) (ba BK154) hb); replace HB := bst hb))
  replace HO157 := Aside0.mk (Kd.R_drew HO157.out); replace BK154 := Aside0.mk (blk_drew BK154.out); replace HB := Aside0.mk (below_drew1 HB.out); obtain ⟨Ao25, co25, eo25⟩ := Kd.R_slice HO157.out; (first | subst eo25 | (injection eo25 with f1_ f2_ f3_; have f4_ := f1_.symm; have f5_ := f3_.symm; clear f1_ f2_ f3_; subst f4_; subst f5_))
  refine st_ (S := fun w' => True) (ds := []) 16 field_generator.tab5 field_generator.bits5 trivial fun hHeld HT_ HW_ => ?_
  generalize w23.drew = w24 at HO157 BK154 HB hHeld ⊢; refine pu 0 16 (bm 16 1) ?_; refine pu 1 17 (bm 16 3) ?_; refine pu 2 18 (bm 16 7) ?_; refine pu 3 19 (bm 16 15) ?_; refine pu 4 20 (bm 16 31) ?_; refine pu 5 21 (bm 16 63) ?_; refine pure_ (i := 6) (N := some 22) (v := undef) (a' := ?_) (bm 16 127) rfl rfl (any_of HT_.out (by kernel_rfl)) (fun _ _ _ h => h) (Or.inr ⟨by rfl, rfl⟩) ?_ ?_; rotate_left
  ·simp only [Act.put, List.setIfInBounds_toArray, List.set_cons_zero, List.set_cons_succ, i64_w, i32_w]; rfl
  refine pure_ (i := 7) (N := some 23) (v := undef) (a' := ?_) (bm 16 255) rfl rfl (any_of HT_.out (by kernel_rfl)) (fun _ _ _ h => h) (Or.inr ⟨by rfl, rfl⟩) ?_ ?_; rotate_left
  ·simp only [Act.put, List.setIfInBounds_toArray, List.set_cons_zero, List.set_cons_succ, i64_w, i32_w]; rfl
  refine pure_ (i := 8) (N := some 24) (v := undef) (a' := ?_) (bm 16 511) rfl rfl (any_of HT_.out (by kernel_rfl)) (fun _ _ _ h => h) (Or.inr ⟨by rfl, rfl⟩) ?_ ?_; rotate_left
  ·simp only [Act.put, List.setIfInBounds_toArray, List.set_cons_zero, List.set_cons_succ, i64_w, i32_w]; rfl
  refine pure_ (i := 9) (N := some 25) (v := undef) (a' := ?_) (bm 16 1023) rfl rfl (any_of HT_.out (by kernel_rfl)) (fun _ _ _ h => h) (Or.inr ⟨by rfl, rfl⟩) ?_ ?_; rotate_left
  ·simp only [Act.put, List.setIfInBounds_toArray, List.set_cons_zero, List.set_cons_succ, i64_w, i32_w]; rfl
  refine pure_ (i := 10) (N := some 26) (v := undef) (a' := ?_) (bm 16 2047) rfl rfl (any_of HT_.out (by kernel_rfl)) (fun _ _ _ h => h) (Or.inr ⟨by rfl, rfl⟩) ?_ ?_; rotate_left
  ·simp only [Act.put, List.setIfInBounds_toArray, List.set_cons_zero, List.set_cons_succ, i64_w, i32_w]; rfl
  refine pure_ (i := 11) (N := some 27) (v := undef) (a' := ?_) (bm 16 4095) rfl rfl (any_of HT_.out (by kernel_rfl)) (fun _ _ _ h => h) (Or.inr ⟨by rfl, rfl⟩) ?_ ?_; rotate_left
  ·simp only [Act.put, List.setIfInBounds_toArray, List.set_cons_zero, List.set_cons_succ, i64_w, i32_w]; rfl
  refine pure_ (i := 12) (N := some 28) (v := undef) (a' := ?_) (bm 16 8191) rfl rfl (any_of HT_.out (by kernel_rfl)) (fun _ _ _ h => h) (Or.inr ⟨by rfl, rfl⟩) ?_ ?_; rotate_left
  ·simp only [Act.put, List.setIfInBounds_toArray, List.set_cons_zero, List.set_cons_succ, i64_w, i32_w]; rfl
  refine pure_ (i := 13) (N := some 29) (v := undef) (a' := ?_) (bm 16 16383) rfl rfl (any_of HT_.out (by kernel_rfl)) (fun _ _ _ h => h) (Or.inr ⟨by rfl, rfl⟩) ?_ ?_; rotate_left
  ·simp only [Act.put, List.setIfInBounds_toArray, List.set_cons_zero, List.set_cons_succ, i64_w, i32_w]; rfl
  refine pure_ (i := 14) (N := some 30) (v := undef) (a' := ?_) (bm 16 32767) rfl rfl (any_of HT_.out (by kernel_rfl)) (fun _ _ _ h => h) (Or.inr ⟨by rfl, rfl⟩) ?_ ?_; rotate_left
  ·simp only [Act.put, List.setIfInBounds_toArray, List.set_cons_zero, List.set_cons_succ, i64_w, i32_w]; rfl
  refine pu 15 31 (bm 16 65535) ?_; refine dn ?_; try go_wp2
  go_roundg k1
  case measure => have := HK1.out; omega
  case rel => exact ⟨(wrap64 (x5_1 + 1)), rs, H', ⟨by have := HK1.out; omega⟩, ⟨ba BK154⟩, ⟨bel⟩⟩
 rw [if_neg c4] at H; have c4b0 : decide (x5_1 < a1) = false := decide_eq_false c4; clear c4; obtain rfl := Option.some.inj H; go_wp2; go_ret; exact ⟨_, ren, ⟨by first | exact Kd.R_nil _ _ _ _ _ | exact Kd.N_nil _ _ _ _ _ | exact Kd.V_nil _ _ _ _ _ | exact Kd.Q_nil _ _ _ _ _ | exact Kd.S_nil _ _ _ _ _, by first | rfl | (intro _; rfl)⟩, bel⟩
end Go.Proofs.Ytgjphmcofmkmfaa.G
namespace Go.Proofs.Ytgjphmcofmkmfaa.G
open Go.RowKit Go.Proofs.YtgjphmcofmkmfaaW.PrintWords Go.Proofs.YtgjphmcofmkmfaaW.PrintLast Go.Proofs.YtgjphmcofmkmfaaW.PrintMore
attribute [local go_sem] max2_int min2_int max_two min_two max_three min_three max_four min_four
set_option linter.unusedVariables false
set_option linter.unusedSimpArgs false
def GFd.At0 (a : GFd) (w : World) : Prop := ∃ A2 c2, ∃ A4 c4, ∃ A5 c5, w.heap[a.blk]? = some (.cells #[.int .i64 a.P, .int .i64 a.M, .slice A2 a.Mod.length c2, .int .i64 a.q, .slice A4 a.exp.length c4, .slice A5 a.log.length c5] 132 (0, 0)) ∧ Kd.C (Kd.int .i64) w A2 a.Mod.length a.Mod ∧ a.Mod.length ≤ c2 ∧ Kd.C (Kd.int .i64) w A4 a.exp.length a.exp ∧ a.exp.length ≤ c4 ∧ Kd.C (Kd.int .i64) w A5 a.log.length a.log ∧ a.log.length ≤ c5
theorem GFd.At0.at {w : World} {a : GFd} (h : a.At0 w) (hw : a.Wf) : GFd.At w a := ⟨hw, h⟩
def field_New.l0 : Nat → List Int → List Int → Int → Int → Option (List Int)
 | 0, _, _, _, _ => none
 | k + 1, x34, x37, x38, x39 => if x39 < x38 then (if 0 ≤ x39 then (if x39 < (x37.length : Int) then (if 0 ≤ (rd x37 x39) then (if (rd x37 x39) < (x34.length : Int) then (field_New.l0 k (x34.set ((rd x37 x39) : Int).toNat x39) x37 x38 (wrap64 (x39 + 1))) else (none)) else (none)) else (none)) else (none)) else (some x34)
def field_New.f (k : Nat) (a0_0 : Int) (a0_1 : Int) (l0_2 : List Int) : Option (Int × List Int × List Int) := (field_shape.f k a0_0 a0_1 l0_2).bind fun t161 => (if t161 = true then ((field_order.f k a0_0 a0_1).bind fun t162 => ((field_generator.f k a0_0 a0_1 l0_2 t162).bind fun t163 => (if (t163.length : Int) = 0 then (some (0, [], [])) else (if (([] : List Int)).length + l0_2.length < 17592186044416 then (if 0 ≤ t162 then (if (t162 : Int).toNat ≤ 35184372088832 then ((field_New.l0 k (List.replicate (t162 : Int).toNat 0) t163 (t163.length : Int) 0).bind fun lg_ => some (t162, t163, lg_)) else (none)) else (none)) else (none))))) else (some (0, [], [])))
def NewPost (w : World) (P M : Int) (Mod : List Int) (r : Int × List Int × List Int) (e : Ending) (w' : World) : Prop :=
 ((r.2.1 = [] ∧ e = .returned (.tuple #[.pointer none, .int .i64 1])) ∨ (r.2.1 ≠ [] ∧ ∃ g, w.heap.size ≤ g ∧ e = .returned (.tuple #[.pointer (some ⟨g, 0, none⟩), .int .i64 0]) ∧ (GFd.mk g P M Mod r.1 r.2.1 r.2.2).At0 w')) ∧ Below w.heap.size w w'
theorem NewPost.bad {w w' : World} {P M : Int} {Mod : List Int} (hb : Below w.heap.size w w') : NewPost w P M Mod (0, [], []) (.returned (.tuple #[.pointer none, .int .i64 1])) w' := ⟨.inl ⟨rfl, rfl⟩, hb⟩
theorem NewPost.good {w w' : World} {g : Nat} {P M q : Int} {Mod exp log : List Int} {v2 v4 v5 : Value} {ok2 ok4 ok5 : Nat → Prop} (he : exp ≠ []) (hg : w.heap.size ≤ g) (hh : w'.heap[g]? = some (.cells #[.int .i64 P, .int .i64 M, v2, .int .i64 q, v4, v5] 132 (0, 0)))
  (h2 : Kd.R (Kd.int .i64) 3 w' w.heap.size ok2 v2 Mod) (h4 : Kd.R (Kd.int .i64) 3 w' w.heap.size ok4 v4 exp) (h5 : Kd.R (Kd.int .i64) 3 w' w.heap.size ok5 v5 log) (hb : Below w.heap.size w w') :
  NewPost w P M Mod (q, exp, log) (.returned (.tuple #[.pointer (some ⟨g, 0, none⟩), .int .i64 0])) w' := by
 obtain ⟨A2, c2, rfl⟩ := Kd.R_slice h2; obtain ⟨A4, c4, rfl⟩ := Kd.R_slice h4; obtain ⟨A5, c5, rfl⟩ := Kd.R_slice h5; exact ⟨.inr ⟨he, g, hg, rfl, A2, c2, A4, c4, A5, c5, hh, (Kd.R_reads' h2).2.2, (Kd.R_reads' h2).2.1, (Kd.R_reads' h4).2.2, (Kd.R_reads' h4).2.1, (Kd.R_reads' h5).2.2, (Kd.R_reads' h5).2.1⟩, hb⟩
theorem isnone_nil {r : List Int} {A : Option Addr} {n c : Nat} (h : r = [] → Value.slice A n c = .slice none 0 0) (hr : (r.length : Int) = 0) : A.isNone = true := by
 have h1 := h (by cases r with | nil => rfl | cons _ _ => simp at hr; omega)
 injection h1 with e1 _ _
 rw [e1]; rfl
theorem isnone_cons {r : List Int} {A : Option Addr} {n c : Nat} {w : World} {b : Nat} {ok : Nat → Prop} (h : Kd.R (Kd.int .i64) 3 w b ok (.slice A n c) r) (hr : ¬ (r.length : Int) = 0) : A.isNone = false := by
 obtain ⟨g, cap, he, _⟩ := Kd.R_form h (by omega); injection he with e1 _ _
 rw [e1]; rfl
theorem eqnil31 (w : World) (a : Option Addr) (n c : Nat) : (binOp .eql 31 (.slice a n c) (.slice none 0 0)).run Try.prog w = .ok (.bool a.isNone) w := Lib.run_eql_slice_nil w 31 3 a n c 0 0 Try.underlying31
attribute [local go_sem] eqnil31
def field_New.T7 : Bool × List (List Nat × List Nat) := (true, [([], []), ([0], [0]), ([], []), ([2], [2]), ([], []), ([], []), ([5], [5]), ([4, 6], [4, 6]), ([1, 3, 7], [1, 3, 7]), ([], []), ([], []), ([], []), ([11, 11], [11]), ([8, 9, 10, 12], [8, 9, 10, 12]), ([13], [13]), ([14, 7, 0, 1, 2, 3, 4, 5, 6, 7, 8, 9, 10, 11, 12, 13, 14], [14])])
def field_New.B7 : List Nat := [0, 1, 0, 4, 0, 0, 32, 112, 255, 0, 0, 0, 2048, 8191, 16383, 32767]
theorem field_New.tab7 : rtab .any (opsOf Try.f68 7) = field_New.T7 := by kernel_rfl
theorem field_New.bits7 : waitsOk field_New.T7.2 field_New.B7 = true := by kernel_rfl
set_option maxHeartbeats 8000000 in
set_option maxRecDepth 100000 in
theorem field_New.calls (k : Nat) (a0_0 : Int) (a0_1 : Int) (A0_2 : Option Addr) (c0_2 : Nat) (l0_2 : List Int) (r : Int × List Int × List Int) (w : World) (hr0_2 : Kd.C (Kd.int .i64) w A0_2 l0_2.length l0_2) (hc0_2 : l0_2.length ≤ c0_2) (h : field_New.f k a0_0 a0_1 l0_2 = some r) :
  Calls Try.prog 68 #[.agg #[.int .i64 a0_0, .int .i64 a0_1, .slice A0_2 l0_2.length c0_2]] w (NewPost w a0_0 a0_1 l0_2 r) := by
 have hu33 := Try.underlying33; have hu132 := Try.underlying132; have HR0_2 := Aside0.mk hr0_2; have HC0_2 := Aside0.mk hc0_2; clear hr0_2 hc0_2; have HB := Aside0.mk (Below.refl w.heap.size w); have H : ((field_shape.f k a0_0 a0_1 l0_2).bind fun t161 => (if t161 = true then ((field_order.f k a0_0 a0_1).bind fun t162 => ((field_generator.f k a0_0 a0_1 l0_2 t162).bind fun t163 => (if (t163.length : Int) = 0 then (some (0, [], [])) else (if (([] : List Int)).length + l0_2.length < 17592186044416 then (if 0 ≤ t162 then (if (t162 : Int).toNat ≤ 35184372088832 then ((field_New.l0 k (List.replicate (t162 : Int).toNat 0) t163 (t163.length : Int) 0).bind fun lg_ => some (t162, t163, lg_)) else (none)) else (none)) else (none))))) else (some (0, [], [])))) = some r := h; clear h; replace H := bz H; obtain ⟨t161, A2, H⟩ := H
 by_cases c3 : t161 = true
 ·subst c3; have H1 : ((field_order.f k a0_0 a0_1).bind fun t162 => ((field_generator.f k a0_0 a0_1 l0_2 t162).bind fun t163 => (if (t163.length : Int) = 0 then (some (0, [], [])) else (if (([] : List Int)).length + l0_2.length < 17592186044416 then (if 0 ≤ t162 then (if (t162 : Int).toNat ≤ 35184372088832 then ((field_New.l0 k (List.replicate (t162 : Int).toNat 0) t163 (t163.length : Int) 0).bind fun lg_ => some (t162, t163, lg_)) else (none)) else (none)) else (none))))) = some r := by rw [if_pos rfl] at H; exact H
  clear H; have H := H1; clear H1; replace H := bz H; obtain ⟨t162, A4, H⟩ := H; replace H := bz H; obtain ⟨t163, A5, H⟩ := H
  by_cases c6 : (t163.length : Int) = 0
  ·rw [if_pos c6] at H; have c6b0 : ((t163.length : Int) == 0) = true := beq_iff_eq.mpr c6; have c6b1 : ((t163.length : Int) != 0) = false := bne_eq_false_iff_eq.mpr c6; obtain rfl := Option.some.inj H; go_enter Try.func68, Try.ntmps68; go_wp2_with (first | ((with_reducible refine gate_dst (N := 1) rfl ?_); refine bx (cs := #[.int .i64 a0_0, .int .i64 a0_1, .slice A0_2 l0_2.length c0_2]) (t := 33) ?_; intro gb160 hg w7 hbox hb; have BK160 := Aside0.mk (hbox); have GW160 := Aside0.mk ((by rw [hg]; exact bsz : w.heap.size ≤ gb160)); have GE160 := Aside0.mk ((by rw [hg]; exact bsz : w.heap.size ≤ gb160)); replace HB := bst hb; clear hb hbox hg; obtain ⟨hcz8_0, hcz8_1, hcz8_2, hfz8_0, hfz8_1, hfz8_2⟩ := b3 BK160) | ((with_reducible refine gate_callee (f := 104) rfl ?_); refine gl (some 10) Try.func104 #[.agg #[.int .i64 a0_0, .int .i64 a0_1, .slice A0_2 l0_2.length c0_2]] ?_; (with_reducible refine (field_shape.calls k a0_0 a0_1 _ _ l0_2 true _ ?side1 ?side2 A2.out).mono ?_); (case side1 => exact cb HR0_2); (case side2 => exact HC0_2.out); rintro e w9 ⟨rfl, hb⟩; refine ⟨_, rfl, ?_⟩; replace BK160 := Aside0.mk (blk_below (g := gb160) (o := .cells #[.int .i64 a0_0, .int .i64 a0_1, .slice A0_2 l0_2.length c0_2] 33 (0, 0)) (ba BK160) hb); replace HB := bst hb; obtain ⟨hcz10_0, hcz10_1, hcz10_2, hfz10_0, hfz10_1, hfz10_2⟩ := b3 BK160) | ((with_reducible refine gate_callee (f := 105) rfl ?_); refine gl (some 16) Try.func105 #[.int .i64 a0_0, .int .i64 a0_1] ?_; (with_reducible refine (field_order.calls k a0_0 a0_1 t162 _ A4.out).mono ?_); rintro e w' ⟨rfl, ⟨nd, rfl⟩⟩; refine ⟨_, rfl, ?_⟩) | ((with_reducible refine gate_callee (f := 106) rfl ?_); refine gl (some 19) Try.func106 #[.agg #[.int .i64 a0_0, .int .i64 a0_1, .slice A0_2 l0_2.length c0_2], .int .i64 t162] ?_; (with_reducible refine (field_generator.calls k a0_0 a0_1 _ _ l0_2 t162 t163 _ ?side1 ?side2 A5.out).mono ?_); (case side1 => repeat (first | exact (Kd.C_below HR0_2.out bel) | (with_reducible refine Kd.C_alloc ?_ _) | (with_reducible refine Kd.C_drewN ?_ _) | (with_reducible refine Kd.C_drew ?_))); (case side2 => exact HC0_2.out); rintro e w11 ⟨v164, rfl, ⟨ho0, hnil_⟩, hb⟩; refine ⟨_, rfl, ?_⟩; have HO165 := Aside0.mk (Kd.R_lower ho0 bsz); replace BK160 := Aside0.mk (blk_below (g := gb160) (o := .cells #[.int .i64 a0_0, .int .i64 a0_1, .slice A0_2 l0_2.length c0_2] 33 (0, 0)) (ba BK160) hb); replace HB := bst hb; skip; obtain ⟨Ao12, co12, eo12⟩ := Kd.R_slice HO165.out; subst eo12; have hAn_ := isnone_nil hnil_ c6)); go_ret2; exact NewPost.bad bel
  ·rw [if_neg c6] at H; have c6b0 : ((t163.length : Int) == 0) = false := beq_eq_false_iff_ne.mpr c6; have c6b1 : ((t163.length : Int) != 0) = true := bne_iff_ne.mpr c6; have c6b2 : ¬ (t163 = []) := fun h_ => c6 (by rw [h_]; rfl)
   generalize hy166 : ((([] : List Int)) : List Int) = y166 at H; have Ny166 := Aside0.mk hy166.symm; clear hy166; replace H := ifp H; obtain ⟨c13, H⟩ := H; have LMc13 := Aside0.mk c13; clear c13; generalize hy169 : ((y166 ++ l0_2) : List Int) = y169 at H; have Ny169 := Aside0.mk hy169.symm; clear hy169; replace H := ift H; obtain ⟨c14b0, c14b1, H⟩ := H; replace H := ift H; obtain ⟨c15b0, c15b1, H⟩ := H; generalize hy172 : ((List.replicate (t162 : Int).toNat 0) : List Int) = y172 at H; have Ny172 := Aside0.mk hy172.symm; clear hy172; have HX_ := Option.bind_eq_some_iff.mp H; clear H; obtain ⟨lg_, H, hr_⟩ := HX_; obtain rfl := Option.some.inj hr_; have H' := Aside0.mk H; clear H; go_enter Try.func68, Try.ntmps68; try go_wp2_with (first | ((with_reducible refine gate_dst (N := 1) rfl ?_); refine bx (cs := #[.int .i64 a0_0, .int .i64 a0_1, .slice A0_2 l0_2.length c0_2]) (t := 33) ?_; intro gb160 hg w16 hbox hb; have BK160 := Aside0.mk (hbox); have GW160 := Aside0.mk ((by rw [hg]; exact bsz : w.heap.size ≤ gb160)); have GE160 := Aside0.mk ((by rw [hg]; exact bsz : w.heap.size ≤ gb160)); replace HB := bst hb; clear hb hbox hg; obtain ⟨hcz17_0, hcz17_1, hcz17_2, hfz17_0, hfz17_1, hfz17_2⟩ := b3 BK160) | ((with_reducible refine gate_callee (f := 104) rfl ?_); refine gl (some 10) Try.func104 #[.agg #[.int .i64 a0_0, .int .i64 a0_1, .slice A0_2 l0_2.length c0_2]] ?_; (with_reducible refine (field_shape.calls k a0_0 a0_1 _ _ l0_2 true _ ?side1 ?side2 A2.out).mono ?_); (case side1 => exact cb HR0_2); (case side2 => exact HC0_2.out); rintro e w18 ⟨rfl, hb⟩; refine ⟨_, rfl, ?_⟩; replace BK160 := Aside0.mk (blk_below (g := gb160) (o := .cells #[.int .i64 a0_0, .int .i64 a0_1, .slice A0_2 l0_2.length c0_2] 33 (0, 0)) (ba BK160) hb); replace HB := bst hb; obtain ⟨hcz19_0, hcz19_1, hcz19_2, hfz19_0, hfz19_1, hfz19_2⟩ := b3 BK160) | ((with_reducible refine gate_callee (f := 105) rfl ?_); refine gl (some 16) Try.func105 #[.int .i64 a0_0, .int .i64 a0_1] ?_; (with_reducible refine (field_order.calls k a0_0 a0_1 t162 _ A4.out).mono ?_); rintro e w' ⟨rfl, ⟨nd, rfl⟩⟩; refine ⟨_, rfl, ?_⟩) | ((with_reducible refine gate_callee (f := 106) rfl ?_); refine gl (some 19) Try.func106 #[.agg #[.int .i64 a0_0, .int .i64 a0_1, .slice A0_2 l0_2.length c0_2], .int .i64 t162] ?_; (with_reducible refine (field_generator.calls k a0_0 a0_1 _ _ l0_2 t162 t163 _ ?side1 ?side2 A5.out).mono ?_); (case side1 => repeat (first | exact (Kd.C_below HR0_2.out bel) | (with_reducible refine Kd.C_alloc ?_ _) | (with_reducible refine Kd.C_drewN ?_ _) | (with_reducible refine Kd.C_drew ?_))); (case side2 => exact HC0_2.out); rintro e w20 ⟨v164, rfl, ⟨ho0, hnil_⟩, hb⟩; refine ⟨_, rfl, ?_⟩; have HO165 := Aside0.mk (Kd.R_lower ho0 bsz); replace BK160 := Aside0.mk (blk_below (g := gb160) (o := .cells #[.int .i64 a0_0, .int .i64 a0_1, .slice A0_2 l0_2.length c0_2] 33 (0, 0)) (ba BK160) hb); replace HB := bst hb; skip; obtain ⟨Ao21, co21, eo21⟩ := Kd.R_slice HO165.out; subst eo21; have hAn_ := isnone_cons HO165.out c6))
   replace HO165 := Aside0.mk (Kd.R_drew HO165.out); replace BK160 := Aside0.mk (blk_drew BK160.out); replace HB := Aside0.mk (below_drew1 HB.out); refine st_ (S := fun w' => w'.cell? ⟨gb160, 0, none⟩ = some (.int .i64 a0_0) ∧ w'.cell? ⟨gb160, 1, none⟩ = some (.int .i64 a0_1) ∧ w'.cell? ⟨gb160, 2, none⟩ = some (.slice A0_2 l0_2.length c0_2)) (ds := []) 16 field_New.tab7 field_New.bits7 ⟨bc BK160 0, bc BK160 1, bc BK160 2⟩ fun hHeld HT_ HW_ => ?_
   generalize w20.drew = w22 at HO165 BK160 HB hHeld ⊢; refine pu 0 22 (bm 16 1) ?_; refine pu 2 24 (bm 16 5) ?_; refine pu 5 27 (bm 16 37) ?_; refine pu 9 31 (bm 16 549) ?_; refine pu 10 32 (bm 16 1573) ?_; refine pu 11 33 (bm 16 3621) ?_; refine take_ (i := 1) (N := some 23) (v := ?_) (a' := ?_) (bm 16 3623) rfl rfl (take_ofW HT_.out HW_.out (by kernel_rfl)) (fun _ _ _ h => h) (Or.inl ⟨by rfl, ?_⟩) hHeld ?_ ?_; rotate_left
   ·rintro w' ⟨s0, s1, s2⟩; go_simp; with_reducible rfl
   rotate_left
   ·simp only [Act.put, List.setIfInBounds_toArray, List.set_cons_zero, List.set_cons_succ, i64_w, i32_w]; rfl
   refine take_ (i := 3) (N := some 25) (v := ?_) (a' := ?_) (bm 16 3631) rfl rfl (take_ofW HT_.out HW_.out (by kernel_rfl)) (fun _ _ _ h => h) (Or.inl ⟨by rfl, ?_⟩) hHeld ?_ ?_; rotate_left
   ·rintro w' ⟨s0, s1, s2⟩; go_simp; with_reducible rfl
   rotate_left
   ·simp only [Act.put, List.setIfInBounds_toArray, List.set_cons_zero, List.set_cons_succ, i64_w, i32_w]; rfl
   refine take_ (i := 6) (N := some 28) (v := ?_) (a' := ?_) (bm 16 3695) rfl rfl (take_ofW HT_.out HW_.out (by kernel_rfl)) (fun _ _ _ h => h) (Or.inl ⟨by rfl, ?_⟩) hHeld ?_ ?_; rotate_left
   ·rintro w' ⟨s0, s1, s2⟩; go_simp; with_reducible rfl
   rotate_left
   ·simp only [Act.put, List.setIfInBounds_toArray, List.set_cons_zero, List.set_cons_succ, i64_w, i32_w]; rfl
   refine join_ (σ := Value × Value × Value) 3 (bm 16 8191) (fun s_ => [(26, s_.1), (29, s_.2.1), (34, s_.2.2), (30, .agg #[.int .i64 a0_0, .int .i64 a0_1, s_.2.1])]) (fun s_ w' => (w'.cell? ⟨gb160, 0, none⟩ = some (.int .i64 a0_0) ∧ w'.cell? ⟨gb160, 1, none⟩ = some (.int .i64 a0_1) ∧ w'.cell? ⟨gb160, 2, none⟩ = some (.slice A0_2 l0_2.length c0_2)) ∧ (Kd.R (Kd.int .i64) 3 w' w.heap.size (fun k_ => some k_ ≠ (s_.2.1 : Value).ownBlock ∧ some k_ ≠ (s_.2.2 : Value).ownBlock) (.slice Ao21 t163.length co21) t163) ∧ (Kd.R (Kd.int .i64) 3 w' w.heap.size (fun k_ => some k_ ≠ (.slice Ao21 t163.length co21 : Value).ownBlock ∧ some k_ ≠ (s_.2.2 : Value).ownBlock) s_.2.1 y169) ∧ (Kd.R (Kd.int .i64) 3 w' w.heap.size (fun k_ => some k_ ≠ (.slice Ao21 t163.length co21 : Value).ownBlock ∧ some k_ ≠ (s_.2.1 : Value).ownBlock) s_.2.2 y172) ∧ (w'.heap[gb160]? = some (.cells #[.int .i64 a0_0, .int .i64 a0_1, .slice A0_2 l0_2.length c0_2] 33 (0, 0))) ∧ (Below w.heap.size w w')) ?_ ?_; rotate_left
   ·intro hCont; refine two_ (i := 4) (j := 12) (Ni := some 26) (Nj := some 34) (bm 16 3711) (bm 16 7791) rfl rfl rfl rfl (two_of HT_.out (by kernel_rfl)) (by decide) (by decide) (fun K hK => ?_) fun K hK => ?_
    ·skip
     refine Kd.R_lit_step (Kd.int .i64) _ 3 ?hg (N := 26) ?hd (xs := ([] : List Int)) (inner := []) (ok := fun _ => True) (okp := fun _ => True) ?hr ?hp (fun _ hk => hk) trivial (Below.refl _ _) (Nat.le_refl _) (by simp) ?_; (case hd => rfl); (case hg => rfl); (case hr => first | (go_simp; done) | (go_simp; rfl)); (case hp => exact (Reps.none _ _))
     intro v167 w23 ho24 hb hg_ hnew_; clear hg_ hnew_; (first | rw [← Ny166.out] at ho24 | (simp only [Int.reduceToNat] at ho24; rw [← Ny166.out] at ho24))
     have HO168 := Aside0.mk (Kd.R_lower (Kd.R_new' ho24 (Kd.R_lt (ra HO165))) bsz); replace HO165 := Aside0.mk (Kd.R_elder' (ra HO165) (Kd.R_base ho24) hb); replace BK160 := Aside0.mk (blk_below (g := gb160) (o := .cells #[.int .i64 a0_0, .int .i64 a0_1, .slice A0_2 l0_2.length c0_2] 33 (0, 0)) (ba BK160) hb); replace HB := bst hb; clear hb ho24; refine hK.out _ _ ⟨bc BK160 0, bc BK160 1, bc BK160 2⟩ (fun hHeld => ?_); clear hK K; refine nmz 26 ?_; refine two_ (i := 7) (j := 12) (Ni := some 29) (Nj := some 34) (bm 16 3839) (bm 16 7807) rfl rfl rfl rfl (two_of HT_.out (by kernel_rfl)) (by decide) (by decide) (fun K hK => ?_) fun K hK => ?_
     ·skip
      refine Kd.R_append_rows_step (Kd.int .i64) (w0 := w) w.heap.size (by rfl) (.tmp 26) (.tmp 28) 31 3 (.int .i64 0) 8 rfl Try.underlying31 info3 rfl (by decide) (by omega) v167 y166 l0_2 _ _ _ (fun k_ => some k_ ≠ (.slice Ao21 t163.length co21 : Value).ownBlock) (fun _ => False) rfl rfl ?aO ?aR (fun _ _ h => h) (fun _ h => h.elim) ?aF ?aB ?aS ?aL ?_; (case aR => repeat (first | exact (Kd.C_below HR0_2.out HB.out) | (with_reducible refine Kd.C_alloc ?_ _) | (with_reducible refine Kd.C_drewN ?_ _) | (with_reducible refine Kd.C_drew ?_)))
      (case aB => exact bel)
      (case aF => exact (fun k_ hk => Kd.fresh' (Kd.R_lt (ra HO165)) k_ hk))
      (case aO => exact (Kd.R_mono (ra HO168) (fun _ hk => hk.2)))
      (case aS => exact bsz)
      (case aL => have := LMc13.out; omega)
      intro v170 w25 ho hb hg hat; rw [← Ny169.out] at ho; replace BK160 := Aside0.mk (blk_grown (g := gb160) (o := .cells #[.int .i64 a0_0, .int .i64 a0_1, .slice A0_2 l0_2.length c0_2] 33 (0, 0)) (ba BK160) hg (Kd.R_ne HO168.out BK160.out (by decide))); replace HO165 := Aside0.mk (Kd.R_after (ok := (fun _ => True)) (ra HO165) hg hat); replace HB := Aside0.mk (hb); have HO171 := Aside0.mk (ho); clear HO168; clear ho hb hg hat; refine hK.out _ _ ⟨bc BK160 0, bc BK160 1, bc BK160 2⟩ (fun hHeld => ?_); clear hK K; refine nmz 29 ?_; refine pure_ (i := 8) (N := some 30) (v := .agg #[.int .i64 a0_0, .int .i64 a0_1, v170]) (a' := ?ac219) (bm 16 4095) rfl rfl (any_of HT_.out (by kernel_rfl)) (fun _ _ _ h => h) (Or.inl ⟨by rfl, ?run219⟩) ?put219 ?_
      case run219 =>
       intro w'; obtain ⟨A171, c171, e171⟩ := Kd.R_slice HO171.out; subst e171; go_simp; try with_reducible rfl
      case put219 =>
       simp only [Act.put, List.setIfInBounds_toArray, List.set_cons_zero, List.set_cons_succ, i64_w, i32_w]; rfl
      refine on 12 34 (bm 16 8191) fun K hK => ?_
      refine Kd.R_make_step (Kd.int .i64) _ 3 (by rfl) (N := 34) rfl 31 _ _ rfl t162 rfl rfl Try.underlying31 (.int .i64 0) 8 info3 rfl (by decide) (by omega) 0 (ok := fun _ => True) (okp := fun _ => True) rfl (fun _ hk => hk) trivial (oda) (Nat.le_trans (Nat.mul_le_mul_right _ (oda : t162.toNat ≤ 35184372088832)) (by omega)) (Below.refl _ _) (Nat.le_refl _) ?_; intro v173 w26 ho27 hb hg_ hnew_; clear hg_ hnew_; (first | rw [← Ny172.out] at ho27 | (simp only [Int.reduceToNat] at ho27; rw [← Ny172.out] at ho27))
      have HO174 := Aside0.mk (Kd.R_lower (Kd.R_new' (Kd.R_new' ho27 (Kd.R_lt (ra HO165))) (Kd.R_lt (ra HO171))) bsz); replace HO165 := Aside0.mk (Kd.R_elder' (ra HO165) (Kd.R_base ho27) hb); replace HO171 := Aside0.mk (Kd.R_elder' (ra HO171) (Kd.R_base ho27) hb); replace BK160 := Aside0.mk (blk_below (g := gb160) (o := .cells #[.int .i64 a0_0, .int .i64 a0_1, .slice A0_2 l0_2.length c0_2] 33 (0, 0)) (ba BK160) hb); replace HB := bst hb; clear hb ho27; refine hK.out _ _ ⟨bc BK160 0, bc BK160 1, bc BK160 2⟩ (fun hHeld => ?_); clear hK K; refine nmz 34 ?_; exact norm_ (by simp only [putAll, Act.put, List.setIfInBounds_toArray, List.set_cons_zero, List.set_cons_succ]) (hCont (v167, v170, v173) _ ⟨hHeld, (Kd.R_mono (ra HO165) (fun _ hk => ⟨hk.1.2, hk.2⟩)), (ra HO171), (Kd.R_mono (ra HO174) (fun _ hk => ⟨hk.1.2, hk.2⟩)), (ba BK160), bel⟩)
     ·skip
      refine Kd.R_make_step (Kd.int .i64) _ 3 (by rfl) (N := 34) rfl 31 _ _ rfl t162 rfl rfl Try.underlying31 (.int .i64 0) 8 info3 rfl (by decide) (by omega) 0 (ok := fun _ => True) (okp := fun _ => True) rfl (fun _ hk => hk) trivial (oda) (Nat.le_trans (Nat.mul_le_mul_right _ (oda : t162.toNat ≤ 35184372088832)) (by omega)) (Below.refl _ _) (Nat.le_refl _) ?_; intro v173 w25 ho26 hb hg_ hnew_; clear hg_ hnew_; (first | rw [← Ny172.out] at ho26 | (simp only [Int.reduceToNat] at ho26; rw [← Ny172.out] at ho26))
      have HO174 := Aside0.mk (Kd.R_lower (Kd.R_new' (Kd.R_new' ho26 (Kd.R_lt (ra HO165))) (Kd.R_lt (ra HO168))) bsz); replace HO165 := Aside0.mk (Kd.R_elder' (ra HO165) (Kd.R_base ho26) hb); replace HO168 := Aside0.mk (Kd.R_elder' (ra HO168) (Kd.R_base ho26) hb); replace BK160 := Aside0.mk (blk_below (g := gb160) (o := .cells #[.int .i64 a0_0, .int .i64 a0_1, .slice A0_2 l0_2.length c0_2] 33 (0, 0)) (ba BK160) hb); replace HB := bst hb; clear hb ho26; refine hK.out _ _ ⟨bc BK160 0, bc BK160 1, bc BK160 2⟩ (fun hHeld => ?_); clear hK K; refine nmz 34 ?_; refine on 7 29 (bm 16 7935) fun K hK => ?_
      refine Kd.R_append_rows_step (Kd.int .i64) (w0 := w) w.heap.size (by rfl) (.tmp 26) (.tmp 28) 31 3 (.int .i64 0) 8 rfl Try.underlying31 info3 rfl (by decide) (by omega) v167 y166 l0_2 _ _ _ (fun k_ => some k_ ≠ (.slice Ao21 t163.length co21 : Value).ownBlock ∧ some k_ ≠ (v173 : Value).ownBlock) (fun _ => False) rfl rfl ?aO ?aR (fun _ _ h => h) (fun _ h => h.elim) ?aF ?aB ?aS ?aL ?_; (case aR => repeat (first | exact (Kd.C_below HR0_2.out HB.out) | (with_reducible refine Kd.C_alloc ?_ _) | (with_reducible refine Kd.C_drewN ?_ _) | (with_reducible refine Kd.C_drew ?_)))
      (case aB => exact bel)
      (case aF => exact (fun k_ hk => ⟨Kd.fresh' (Kd.R_lt (ra HO165)) k_ hk, Kd.fresh' (Kd.R_lt (ra HO174)) k_ hk⟩))
      (case aO => exact (Kd.R_mono (ra HO168) (fun _ hk => ⟨hk.1.2, hk.2⟩)))
      (case aS => exact bsz)
      (case aL => have := LMc13.out; omega)
      intro v170 w27 ho hb hg hat; rw [← Ny169.out] at ho; replace BK160 := Aside0.mk (blk_grown (g := gb160) (o := .cells #[.int .i64 a0_0, .int .i64 a0_1, .slice A0_2 l0_2.length c0_2] 33 (0, 0)) (ba BK160) hg (Kd.R_ne HO168.out BK160.out (by decide))); replace HO165 := Aside0.mk (Kd.R_after (ok := (fun k_ => some k_ ≠ (v173 : Value).ownBlock)) (Kd.R_mono (ra HO165) (fun _ hk => ⟨hk.2, hk.1.2⟩)) hg hat); replace HO174 := Aside0.mk (Kd.R_after (ok := (fun k_ => some k_ ≠ (.slice Ao21 t163.length co21 : Value).ownBlock)) (Kd.R_mono (ra HO174) (fun _ hk => ⟨hk.1.2, hk.2⟩)) hg hat); replace HB := Aside0.mk (hb); have HO171 := Aside0.mk (ho); clear HO168; clear ho hb hg hat; refine hK.out _ _ ⟨bc BK160 0, bc BK160 1, bc BK160 2⟩ (fun hHeld => ?_); clear hK K; refine nmz 29 ?_; refine pure_ (i := 8) (N := some 30) (v := .agg #[.int .i64 a0_0, .int .i64 a0_1, v170]) (a' := ?ac318) (bm 16 8191) rfl rfl (any_of HT_.out (by kernel_rfl)) (fun _ _ _ h => h) (Or.inl ⟨by rfl, ?run318⟩) ?put318 ?_
      case run318 =>
       intro w'; obtain ⟨A171, c171, e171⟩ := Kd.R_slice HO171.out; subst e171; go_simp; try with_reducible rfl
      case put318 =>
       simp only [Act.put, List.setIfInBounds_toArray, List.set_cons_zero, List.set_cons_succ, i64_w, i32_w]; rfl
      exact norm_ (by simp only [putAll, Act.put, List.setIfInBounds_toArray, List.set_cons_zero, List.set_cons_succ]) (hCont (v167, v170, v173) _ ⟨hHeld, (Kd.R_mono (ra HO165) (fun _ hk => ⟨hk.2, hk.1⟩)), (ra HO171), (ra HO174), (ba BK160), bel⟩)
    ·skip
     refine Kd.R_make_step (Kd.int .i64) _ 3 (by rfl) (N := 34) rfl 31 _ _ rfl t162 rfl rfl Try.underlying31 (.int .i64 0) 8 info3 rfl (by decide) (by omega) 0 (ok := fun _ => True) (okp := fun _ => True) rfl (fun _ hk => hk) trivial (oda) (Nat.le_trans (Nat.mul_le_mul_right _ (oda : t162.toNat ≤ 35184372088832)) (by omega)) (Below.refl _ _) (Nat.le_refl _) ?_; intro v173 w23 ho24 hb hg_ hnew_; clear hg_ hnew_; (first | rw [← Ny172.out] at ho24 | (simp only [Int.reduceToNat] at ho24; rw [← Ny172.out] at ho24))
     have HO174 := Aside0.mk (Kd.R_lower (Kd.R_new' ho24 (Kd.R_lt (ra HO165))) bsz); replace HO165 := Aside0.mk (Kd.R_elder' (ra HO165) (Kd.R_base ho24) hb); replace BK160 := Aside0.mk (blk_below (g := gb160) (o := .cells #[.int .i64 a0_0, .int .i64 a0_1, .slice A0_2 l0_2.length c0_2] 33 (0, 0)) (ba BK160) hb); replace HB := bst hb; clear hb ho24; refine hK.out _ _ ⟨bc BK160 0, bc BK160 1, bc BK160 2⟩ (fun hHeld => ?_); clear hK K; refine nmz 34 ?_; refine on 4 26 (bm 16 7807) fun K hK => ?_
     refine Kd.R_lit_step (Kd.int .i64) _ 3 ?hg (N := 26) ?hd (xs := ([] : List Int)) (inner := []) (ok := fun _ => True) (okp := fun _ => True) ?hr ?hp (fun _ hk => hk) trivial (Below.refl _ _) (Nat.le_refl _) (by simp) ?_; (case hd => rfl); (case hg => rfl); (case hr => first | (go_simp; done) | (go_simp; rfl)); (case hp => exact (Reps.none _ _))
     intro v167 w25 ho26 hb hg_ hnew_; clear hg_ hnew_; (first | rw [← Ny166.out] at ho26 | (simp only [Int.reduceToNat] at ho26; rw [← Ny166.out] at ho26))
     have HO168 := Aside0.mk (Kd.R_lower (Kd.R_new' (Kd.R_new' ho26 (Kd.R_lt (ra HO165))) (Kd.R_lt (ra HO174))) bsz); replace HO165 := Aside0.mk (Kd.R_elder' (ra HO165) (Kd.R_base ho26) hb); replace HO174 := Aside0.mk (Kd.R_elder' (ra HO174) (Kd.R_base ho26) hb); replace BK160 := Aside0.mk (blk_below (g := gb160) (o := .cells #[.int .i64 a0_0, .int .i64 a0_1, .slice A0_2 l0_2.length c0_2] 33 (0, 0)) (ba BK160) hb); replace HB := bst hb; clear hb ho26; refine hK.out _ _ ⟨bc BK160 0, bc BK160 1, bc BK160 2⟩ (fun hHeld => ?_); clear hK K; refine nmz 26 ?_; refine on 7 29 (bm 16 7935) fun K hK => ?_
     refine Kd.R_append_rows_step (Kd.int .i64) (w0 := w) w.heap.size (by rfl) (.tmp 26) (.tmp 28) 31 3 (.int .i64 0) 8 rfl Try.underlying31 info3 rfl (by decide) (by omega) v167 y166 l0_2 _ _ _ (fun k_ => some k_ ≠ (.slice Ao21 t163.length co21 : Value).ownBlock ∧ some k_ ≠ (v173 : Value).ownBlock) (fun _ => False) rfl rfl ?aO ?aR (fun _ _ h => h) (fun _ h => h.elim) ?aF ?aB ?aS ?aL ?_; (case aR => repeat (first | exact (Kd.C_below HR0_2.out HB.out) | (with_reducible refine Kd.C_alloc ?_ _) | (with_reducible refine Kd.C_drewN ?_ _) | (with_reducible refine Kd.C_drew ?_)))
     (case aB => exact bel)
     (case aF => exact (fun k_ hk => ⟨Kd.fresh' (Kd.R_lt (ra HO165)) k_ hk, Kd.fresh' (Kd.R_lt (ra HO174)) k_ hk⟩))
     (case aO => exact (Kd.R_mono (ra HO168) (fun _ hk => ⟨hk.1.2, hk.2⟩)))
     (case aS => exact bsz)
     (case aL => have := LMc13.out; omega)
     intro v170 w27 ho hb hg hat; rw [← Ny169.out] at ho; replace BK160 := Aside0.mk (blk_grown (g := gb160) (o := .cells #[.int .i64 a0_0, .int .i64 a0_1, .slice A0_2 l0_2.length c0_2] 33 (0, 0)) (ba BK160) hg (Kd.R_ne HO168.out BK160.out (by decide))); replace HO165 := Aside0.mk (Kd.R_after (ok := (fun k_ => some k_ ≠ (v173 : Value).ownBlock)) (Kd.R_mono (ra HO165) (fun _ hk => ⟨hk.1.2, hk.2⟩)) hg hat); replace HO174 := Aside0.mk (Kd.R_after (ok := (fun k_ => some k_ ≠ (.slice Ao21 t163.length co21 : Value).ownBlock)) (Kd.R_mono (ra HO174) (fun _ hk => ⟨hk.1.2, hk.2⟩)) hg hat); replace HB := Aside0.mk (hb); have HO171 := Aside0.mk (ho); clear HO168; clear ho hb hg hat; refine hK.out _ _ ⟨bc BK160 0, bc BK160 1, bc BK160 2⟩ (fun hHeld => ?_); clear hK K; refine nmz 29 ?_; refine pure_ (i := 8) (N := some 30) (v := .agg #[.int .i64 a0_0, .int .i64 a0_1, v170]) (a' := ?ac414) (bm 16 8191) rfl rfl (any_of HT_.out (by kernel_rfl)) (fun _ _ _ h => h) (Or.inl ⟨by rfl, ?run414⟩) ?put414 ?_
     case run414 =>
      intro w'; obtain ⟨A171, c171, e171⟩ := Kd.R_slice HO171.out; subst e171; go_simp; try with_reducible rfl
     case put414 =>
      simp only [Act.put, List.setIfInBounds_toArray, List.set_cons_zero, List.set_cons_succ, i64_w, i32_w]; rfl
     exact norm_ (by simp only [putAll, Act.put, List.setIfInBounds_toArray, List.set_cons_zero, List.set_cons_succ]) (hCont (v167, v170, v173) _ ⟨hHeld, (Kd.R_mono (ra HO165) (fun _ hk => ⟨hk.2, hk.1⟩)), (ra HO171), (ra HO174), (ba BK160), bel⟩)
   rintro ⟨v167, v170, v173⟩ w28 ⟨hS_, h0_, h1_, h2_, h3_, h4_⟩; have n0_ : Aside0 (Kd.R (Kd.int .i64) 3 w28 w.heap.size (fun k_ => some k_ ≠ (v170 : Value).ownBlock ∧ some k_ ≠ (v173 : Value).ownBlock) (.slice Ao21 t163.length co21) t163) := ⟨h0_⟩; have n1_ : Aside0 (Kd.R (Kd.int .i64) 3 w28 w.heap.size (fun k_ => some k_ ≠ (.slice Ao21 t163.length co21 : Value).ownBlock ∧ some k_ ≠ (v173 : Value).ownBlock) v170 y169) := ⟨h1_⟩; have n2_ : Aside0 (Kd.R (Kd.int .i64) 3 w28 w.heap.size (fun k_ => some k_ ≠ (.slice Ao21 t163.length co21 : Value).ownBlock ∧ some k_ ≠ (v170 : Value).ownBlock) v173 y172) := ⟨h2_⟩; have n3_ : Aside0 (w28.heap[gb160]? = some (.cells #[.int .i64 a0_0, .int .i64 a0_1, .slice A0_2 l0_2.length c0_2] 33 (0, 0))) := ⟨h3_⟩; have n4_ : Aside0 (Below w.heap.size w w28) := ⟨h4_⟩; clear HO165; clear BK160; clear HB; clear h0_ h1_ h2_ h3_ h4_; have HO165 := n0_; have HO171 := n1_; have HO174 := n2_; have BK160 := n3_; have HB := n4_; clear n0_ n1_ n2_ n3_ n4_; have hHeld : w28.cell? ⟨gb160, 0, none⟩ = some (.int .i64 a0_0) ∧ w28.cell? ⟨gb160, 1, none⟩ = some (.int .i64 a0_1) ∧ w28.cell? ⟨gb160, 2, none⟩ = some (.slice A0_2 l0_2.length c0_2) := hS_; refine norm_ (a' := ?_) ?_ ?_; rotate_left
   ·simp only [putAll, Act.put, List.setIfInBounds_toArray, List.set_cons_zero, List.set_cons_succ]; rfl
   refine pure_ (i := 13) (N := some 35) (v := .agg #[.int .i64 a0_0, .int .i64 a0_1, v170, .int .i64 t162, .slice Ao21 t163.length co21, v173]) (a' := ?ac444) (bm 16 16383) rfl rfl (any_of HT_.out (by kernel_rfl)) (fun _ _ _ h => h) (Or.inl ⟨by rfl, ?run444⟩) ?put444 ?_
   case run444 =>
    intro w'; obtain ⟨A171, c171, e171⟩ := Kd.R_slice HO171.out; obtain ⟨A174, c174, e174⟩ := Kd.R_slice HO174.out; subst e171; subst e174; go_simp; try with_reducible rfl
   case put444 =>
    simp only [Act.put, List.setIfInBounds_toArray, List.set_cons_zero, List.set_cons_succ, i64_w, i32_w]; rfl
   refine on 14 36 (bm 16 32767) fun K hK => ?_
   refine box_step ?hg (N := 36) ?hd (cs := #[.int .i64 a0_0, .int .i64 a0_1, v170, .int .i64 t162, .slice Ao21 t163.length co21, v173]) (t := 132) ?hr ?_
   case hg => rfl
   case hd => rfl
   case hr =>
    obtain ⟨A171, c171, e171⟩ := Kd.R_slice HO171.out; obtain ⟨A174, c174, e174⟩ := Kd.R_slice HO174.out; subst e171; subst e174; first | (go_simp; done) | (go_simp; rfl)
   intro gX hgX w29 hboxX hb; have n0_ := Aside0.mk (Kd.R_below HO165.out hb); have n1_ := Aside0.mk (Kd.R_below HO171.out hb); have n2_ := Aside0.mk (Kd.R_below HO174.out hb); have n3_ := Aside0.mk (blk_below (g := gb160) (o := .cells #[.int .i64 a0_0, .int .i64 a0_1, .slice A0_2 l0_2.length c0_2] 33 (0, 0)) BK160.out hb); have GXW : Aside0 (w.heap.size ≤ gX) := ⟨by rw [hgX]; exact below_size HB.out⟩
   have n4_ := Aside0.mk (below_step HB.out hb); have BKX := Aside0.mk hboxX; clear HO165 HO171 HO174 BK160 HB hboxX hb hgX; have HO165 := n0_; have HO171 := n1_; have HO174 := n2_; have BK160 := n3_; have HB := n4_; clear n0_ n1_ n2_ n3_ n4_; refine hK.out _ _ ⟨bc BK160 0, bc BK160 1, bc BK160 2⟩ (fun hHeld => ?_); clear hK K; refine nmz 36 ?_; refine pu 15 6 (bm 16 65535) ?_; refine dn ?_; try go_wp2
   go_loopg [39] k (fun kq v39 w' => ∃ (x34_1 : List Int) (x39_1 : Int), v39 = .int .i64 x39_1 ∧ Aside0 (field_New.l0 kq x34_1 t163 (t163.length : Int) x39_1 = some lg_) ∧ Aside0 (kq ≤ k) ∧ Aside0 (Kd.R (Kd.int .i64) 3 w' w.heap.size (fun k_ => some k_ ≠ ((.slice Ao21 t163.length co21) : Value).ownBlock) v173 x34_1) ∧ Aside0 (Kd.R (Kd.int .i64) 3 w' w.heap.size (fun k_ => some k_ ≠ (v173 : Value).ownBlock) (.slice Ao21 t163.length co21) t163) ∧ Aside0 (Kd.R (Kd.int .i64) 3 w' w.heap.size (fun k_ => some k_ ≠ (v173 : Value).ownBlock) v170 y169) ∧ Aside0 (w'.heap[gX]? = some (.cells #[.int .i64 a0_0, .int .i64 a0_1, v170, .int .i64 t162, .slice Ao21 t163.length co21, v173] 132 (0, 0))) ∧ Aside0 (w'.heap[gb160]? = some (.cells #[.int .i64 a0_0, .int .i64 a0_1, (.slice A0_2 l0_2.length c0_2)] 33 (0, 0))) ∧ Aside0 (Below w.heap.size w w'))
   case atStart => exact ⟨(y172), (0), rs, H', ⟨Nat.le_refl _⟩, ⟨Kd.R_mono (ra HO174) (fun _ hk => hk.1)⟩, ⟨Kd.R_mono (ra HO165) (fun _ hk => hk.2)⟩, ⟨Kd.R_mono (ra HO171) (fun _ hk => hk.2)⟩, ⟨ba BKX⟩, ⟨ba BK160⟩, ⟨bel⟩⟩
   case round =>
    clear H'; skip
    obtain ⟨x34_1, x39_1, rfl, HA, HK1, HO_34, HO_37, HO_M, BKX, BK160, HB⟩ := hrel; rcases gk with _ | k1
    ·exact absurd HA.out (by simp [field_New.l0])
    have H := HA.out; clear HA; simp only [field_New.l0] at H
    by_cases c29 : x39_1 < (t163.length : Int)
    ·rw [if_pos c29] at H; have c29b0 : decide (x39_1 < (t163.length : Int)) = true := decide_eq_true c29; clear c29; replace H := ifd H; obtain ⟨c30b0, H⟩ := H; replace H := ifd H; obtain ⟨c31b0, H⟩ := H; replace H := ifd H; obtain ⟨c32b0, H⟩ := H; replace H := ifd H; obtain ⟨c33b0, H⟩ := H; obtain ⟨y176, hy176⟩ : ∃ y_ : List Int, y_ = (x34_1.set ((rd t163 x39_1) : Int).toNat x39_1) := ⟨_, rfl⟩; replace H : (field_New.l0 k1 y176 t163 (t163.length : Int) (wrap64 (x39_1 + 1))) = some lg_ := by first | (rw [hy176]; with_reducible exact H) | (have H2_ := (Option.bind_some _ _).symm.trans H; rw [hy176]; with_reducible exact H2_) | (have H2_ := (Option.bind_some _ _).symm.trans H; with_reducible exact H2_) | with_reducible exact H | (rw [hy176]; exact H) | exact H
     have Ny176 := Aside0.mk hy176; clear hy176; have H' := Aside0.mk H; clear H; have p175 : 0 ≤ (x39_1 : Int) := oda; have q175 : x39_1 < (t163.length : Int) := oda; obtain ⟨ad175, e175, hx175_0⟩ := Kd.at_int (Kd.R_reads' HO_37.out).2.2 x39_1 p175 q175; cases e175; replace p175 := eq_true p175; replace q175 := eq_true q175; have p34 : 0 ≤ ((rd t163 x39_1) : Int) := oda; have q34 : ((rd t163 x39_1) : Int) < ((x34_1.length : Int) : Int) := oda; obtain ⟨go34, co34, eo34, gb34, gl34, cl34, HG34⟩ := Kd.R_form HO_34.out (by omega); (first | cases eo34 | (injection eo34 with ea_ en_ ec_; (first | subst ea_ | (injection ea_ with ea_; subst ea_)); subst ec_; clear en_))
     have GB34 := Aside0.mk gb34; have GG34 := Aside0.mk HG34; clear gb34 gl34 HG34; obtain ⟨hx34_0, hf34_0⟩ := Kd.R_celln 0 HO_34.out ((rd t163 x39_1) : Int) p34 q34; replace p34 := eq_true p34; replace q34 := eq_true q34; have HP35 := Kd.R_putg HO_34.out ((rd t163 x39_1) : Int) x39_1; have hczX := cellG5 BKX.out; go_wp2_with (first | ((with_reducible refine gate_store (t := 3) (p := 50) rfl ?_); refine store_event (t := 3) (p := 50) (v := ?vo_w36) (w1 := (wr.setCell ⟨go34, ((rd t163 x39_1) : Int).toNat, none⟩ (.int .i64 x39_1))) ?hg ?ho ?hn ?hr ?_; (case ho => rfl); (case hg => rfl); (case hn => rfl); (case hr => first | (go_simp; done) | (go_simp; rfl)); intro w36 hw; have hg : wr.grownBy w36 (some go34) := (by rw [hw]; exact HP35.2); have hp_ : Kd.R (Kd.int .i64) 3 w36 w.heap.size (fun k_ => some k_ ≠ (.slice (some ad175) t163.length co21 : Value).ownBlock) (.slice (some ⟨go34, 0, none⟩) x34_1.length co34) y176 := (by rw [hw, Ny176.out]; exact HP35.1); clear HP35; have n0_ := Aside0.mk (hp_); have n1_ := Aside0.mk (Kd.R_after (v := (.slice (some ⟨go34, 0, none⟩) x34_1.length co34)) (v1 := (.slice (some ⟨go34, 0, none⟩) x34_1.length co34)) (ok := (fun _ => True)) (Kd.R_mono (ra HO_37) (fun _ hk => ⟨trivial, hk⟩)) hg (.inl rfl)); have m0_ := Aside0.mk (Kd.R_after (v := (.slice (some ⟨go34, 0, none⟩) x34_1.length co34)) (v1 := (.slice (some ⟨go34, 0, none⟩) x34_1.length co34)) (ok := (fun _ => True)) (Kd.R_mono (ra HO_M) (fun _ hk => ⟨trivial, hk⟩)) hg (.inl rfl)); have m1_ := Aside0.mk (blk_grown (g := gX) (ba BKX) hg (Kd.R_ne HO_34.out BKX.out (by decide))); have n2_ := Aside0.mk (blk_grown (g := gb160) (o := .cells #[.int .i64 a0_0, .int .i64 a0_1, .slice A0_2 l0_2.length c0_2] 33 (0, 0)) (ba BK160) hg (Kd.R_ne HO_34.out BK160.out (by decide))); have n3_ := Aside0.mk ((by rw [hw]; exact below_set (HB.out) GB34.out : Below w.heap.size w w36)); clear hczX; clear HO_34; clear HO_37; clear BK160; clear HB; clear HO_M; clear BKX; have HO_M := m0_; have BKX := m1_; clear m0_ m1_; have HO_34 := n0_; have HO_37 := n1_; have BK160 := n2_; have HB := n3_; clear n0_ n1_ n2_ n3_; clear hg hw hp_))
     go_roundg k1
     case measure => have := HK1.out; omega
     case rel => exact ⟨(y176), (wrap64 (x39_1 + 1)), rs, H', ⟨by have := HK1.out; omega⟩, ⟨ra HO_34⟩, ⟨Kd.R_mono (ra HO_37) (fun _ hk => hk.2)⟩, ⟨Kd.R_mono (ra HO_M) (fun _ hk => hk.2)⟩, ⟨ba BKX⟩, ⟨ba BK160⟩, ⟨bel⟩⟩
    ·rw [if_neg c29] at H; have c29b0 : decide (x39_1 < (t163.length : Int)) = false := decide_eq_false c29; clear c29; obtain rfl := Option.some.inj H; go_wp2; go_ret2; exact NewPost.good c6b2 GXW.out BKX.out (by have hy_ : y169 = l0_2 := (by rw [Ny169.out, Ny166.out]; rfl); rw [← hy_]; exact HO_M.out) HO_37.out HO_34.out bel
 ·replace c3 := Bool.eq_false_iff.mpr c3; subst c3; have H1 : (some (0, [], [])) = some r := by rw [if_neg (show ¬ (false = true) by decide)] at H; exact H
  clear H; have H := H1; clear H1; obtain rfl := Option.some.inj H; go_enter Try.func68, Try.ntmps68; go_wp2_with (first | ((with_reducible refine gate_dst (N := 1) rfl ?_); refine bx (cs := #[.int .i64 a0_0, .int .i64 a0_1, .slice A0_2 l0_2.length c0_2]) (t := 33) ?_; intro gb160 hg w37 hbox hb; have BK160 := Aside0.mk (hbox); have GW160 := Aside0.mk ((by rw [hg]; exact bsz : w.heap.size ≤ gb160)); have GE160 := Aside0.mk ((by rw [hg]; exact bsz : w.heap.size ≤ gb160)); replace HB := bst hb; clear hb hbox hg; obtain ⟨hcz38_0, hcz38_1, hcz38_2, hfz38_0, hfz38_1, hfz38_2⟩ := b3 BK160) | ((with_reducible refine gate_callee (f := 104) rfl ?_); refine gl (some 10) Try.func104 #[.agg #[.int .i64 a0_0, .int .i64 a0_1, .slice A0_2 l0_2.length c0_2]] ?_; (with_reducible refine (field_shape.calls k a0_0 a0_1 _ _ l0_2 false _ ?side1 ?side2 A2.out).mono ?_); (case side1 => exact cb HR0_2); (case side2 => exact HC0_2.out); rintro e w39 ⟨rfl, hb⟩; refine ⟨_, rfl, ?_⟩; replace BK160 := Aside0.mk (blk_below (g := gb160) (o := .cells #[.int .i64 a0_0, .int .i64 a0_1, .slice A0_2 l0_2.length c0_2] 33 (0, 0)) (ba BK160) hb); replace HB := bst hb))
  go_ret2; exact NewPost.bad bel
end Go.Proofs.Ytgjphmcofmkmfaa.G
namespace Go.Proofs.Ytgjphmcofmkmfaa.G
open Go.RowKit Go.Proofs.YtgjphmcofmkmfaaW.PrintWords Go.Proofs.YtgjphmcofmkmfaaW.PrintLast Go.Proofs.YtgjphmcofmkmfaaW.PrintMore
theorem w64 {x : Int} (h : -9223372036854775808 ≤ x) (h' : x ≤ 9223372036854775807) : wrap64 x = x := by
  unfold wrap64; omega
theorem order_l0 : ∀ (k : Nat) (p x n i r : Int), field_order.l0 k p x n i = some r → r ≠ 0 → 2 ≤ p → p ≤ 256 → 1 ≤ x → x ≤ 256 → 0 ≤ i → n ≤ 8 → r ≤ 256 ∧ x ≤ r ∧ (i < n → 2 ≤ r)
  | 0, p, x, n, i, r, h, _, _, _, _, _, _, _ => by simp [field_order.l0] at h
  | k + 1, p, x, n, i, r, h, hr, p2, p256, x1, x256, i0, n8 => by
    simp only [field_order.l0] at h
    have h1 : p ≤ x * p := by have := Int.mul_le_mul_of_nonneg_right x1 (by omega : (0:Int) ≤ p); omega
    have h2 : x * p ≤ 256 * 256 := Int.mul_le_mul x256 p256 (by omega) (by omega)
    have h3 : x ≤ x * p := by have := Int.mul_le_mul_of_nonneg_left (by omega : (1:Int) ≤ p) (by omega : (0:Int) ≤ x); omega
    split at h
    · rename_i c
      rw [w64 (by omega) (by omega)] at h
      split at h
      · exact absurd (Option.some.inj h).symm hr
      · rename_i c2
        rw [w64 (by omega) (by omega)] at h
        obtain ⟨a, b, _⟩ := order_l0 k p (x * p) n (i + 1) r h hr p2 p256 (by omega) (by omega) (by omega) n8
        exact ⟨a, by omega, fun _ => by omega⟩
    · obtain rfl := Option.some.inj h
      exact ⟨x256, Int.le_refl _, fun h => absurd h (by assumption)⟩
theorem order_spec {k : Nat} {p m r : Int} (h : field_order.f k p m = some r) (hr : r ≠ 0) : 2 ≤ p ∧ p ≤ 256 ∧ 1 ≤ m ∧ m ≤ 8 ∧ 2 ≤ r ∧ r ≤ 256 := by
  have hj : ∀ b, field_order.j0 k p m b = some r → b = false ∧ ∃ k', field_order.l0 k' p 1 m 0 = some r := by
    intro b hb
    cases k with
    | zero => simp [field_order.j0] at hb
    | succ k =>
      simp only [field_order.j0] at hb
      split at hb
      · exact absurd (Option.some.inj hb).symm hr
      · rename_i c
        exact ⟨by simpa using c, k, hb⟩
  unfold field_order.f at h
  split at h
  · exact absurd (hj _ h).1 (by simp)
  split at h
  · exact absurd (hj _ h).1 (by simp)
  split at h
  · exact absurd (hj _ h).1 (by simp)
  obtain ⟨h8, k', hl⟩ := hj _ h
  have h8 : m ≤ 8 := by have := of_decide_eq_false h8; omega
  obtain ⟨a, b, c⟩ := order_l0 k' p 1 m 0 r hl hr (by omega) (by omega) (by omega) (by omega) (by omega) h8
  exact ⟨by omega, by omega, by omega, h8, c (by omega), a⟩
theorem shape_l0 : ∀ (k : Nat) (xs : List Int) (n i : Int) (a b : Int) (c : List Int), field_shape.l0 k xs n i a b c = some true → 0 ≤ i → n ≤ 8 → ∀ j, i ≤ j → j < n → 0 ≤ rd xs j ∧ rd xs j < a
  | 0, xs, n, i, a, b, c, h, _, _ => by simp [field_shape.l0] at h
  | k + 1, xs, n, i, a, b, c, h, h0, n8 => by
    intro j hj hjn
    simp only [field_shape.l0] at h
    split at h
    · rename_i c1
      split at h
      · split at h
        · simp at h
        · split at h
          · simp at h
          · rename_i c4 c5
            by_cases e : i = j
            · subst e; exact ⟨by omega, by omega⟩
            · rw [w64 (by omega) (by omega)] at h
              exact shape_l0 k xs n (i + 1) a b c h (by omega) n8 j (by omega) hjn
      · simp at h
    · omega
theorem shape_spec {k : Nat} {p m : Int} {mod : List Int} (h : field_shape.f k p m mod = some true) :
    ∃ k' q, field_order.f k' p m = some q ∧ q ≠ 0 ∧ field_isPrime.f k' p = some true ∧ ((m = 1 ∧ mod = []) ∨ (m ≠ 1 ∧ (mod.length : Int) = m ∧ ∀ j, 0 ≤ j → j < m → 0 ≤ rd mod j ∧ rd mod j < p)) := by
  unfold field_shape.f at h
  obtain ⟨q, hq, h⟩ := Option.bind_eq_some_iff.mp h
  have hj : ∀ b, field_shape.j0 k b p m mod = some true → b = false ∧ ((m = 1 ∧ mod = []) ∨ (m ≠ 1 ∧ (mod.length : Int) = m ∧ ∃ k', field_shape.l0 k' mod (mod.length : Int) 0 p m mod = some true)) := by
    intro b hb
    cases k with
    | zero => simp [field_shape.j0] at hb
    | succ k =>
      simp only [field_shape.j0] at hb
      split at hb
      · simp at hb
      · rename_i c
        refine ⟨by simpa using c, ?_⟩
        split at hb
        · rename_i c1
          left
          refine ⟨c1, ?_⟩
          have := Option.some.inj hb
          cases mod with
          | nil => rfl
          | cons a l => simp at this; omega
        · rename_i c1
          split at hb
          · rename_i c2
            exact .inr ⟨c1, c2, k, hb⟩
          · simp at hb
  split at h
  · exact absurd (hj _ h).1 (by simp)
  · rename_i c0
    obtain ⟨pr, hp, h⟩ := Option.bind_eq_some_iff.mp h
    obtain ⟨h1, h2⟩ := hj _ h
    have hpr : pr = true := by simpa using h1
    subst hpr
    refine ⟨k, q, hq, c0, hp, ?_⟩
    rcases h2 with h2 | ⟨h3, h4, k', h5⟩
    · exact .inl h2
    · obtain ⟨_, _, _, m8, _, _⟩ := order_spec hq c0
      refine .inr ⟨h3, h4, fun j j0 jm => shape_l0 k' mod _ 0 p m mod h5 (by omega) (by omega) j j0 (by omega)⟩
theorem rd_mem {l : List Int} {P : Int → Prop} (h0 : P 0) (h : ∀ x ∈ l, P x) (i : Int) : P (rd l i) := by
  unfold rd
  rw [List.getD_eq_getElem?_getD]
  cases e : l[i.toNat]? with
  | none => exact h0
  | some x => exact h x (List.mem_of_getElem? e)
theorem powers_l0 : ∀ (k : Nat) (x : Int) (xs : List Int) (seen : List Bool) (y p m : Int) (mod r : List Int), field_powers.l0 k x xs seen y p m mod = some r → (∀ z ∈ xs, 1 ≤ z ∧ z < seen.length) → ∀ z ∈ r, 1 ≤ z ∧ z < seen.length
  | 0, x, xs, seen, y, p, m, mod, r, h, _ => by simp [field_powers.l0] at h
  | k + 1, x, xs, seen, y, p, m, mod, r, h, hx => by
    simp only [field_powers.l0] at h
    split at h
    · obtain rfl := Option.some.inj h; exact hx
    · rename_i c0
      split at h
      · rename_i c1
        split at h
        · rename_i c2
          split at h
          · obtain rfl := Option.some.inj h; exact hx
          · split at h
            · obtain ⟨t, _, h⟩ := Option.bind_eq_some_iff.mp h
              have := powers_l0 k x (xs ++ [y]) (seen.set y.toNat true) t p m mod r h (by
                intro z hz
                rw [List.length_set]
                rcases List.mem_append.mp hz with hz | hz
                · exact hx z hz
                · rw [List.mem_singleton.mp hz]; exact ⟨by omega, c2⟩)
              rw [List.length_set] at this
              exact this
            · simp at h
        · simp at h
      · simp at h
theorem powers_spec {k : Nat} {p m q x : Int} {mod r : List Int} (h : field_powers.f k p m mod q x = some r) : ∀ z ∈ r, 1 ≤ z ∧ z < q := by
  unfold field_powers.f at h
  split at h
  · rename_i c0
    split at h
    · rw [Option.bind_some] at h
      split at h
      · rename_i c1
        have := powers_l0 k x [1] _ x p m mod r h (by
          intro z hz
          rw [List.mem_singleton.mp hz]
          rw [List.length_set]
          exact ⟨by omega, c1⟩)
        simp only [List.length_set, List.length_replicate] at this
        intro z hz
        have := this z hz
        exact ⟨this.1, by omega⟩
      · simp at h
    · simp at h
  · simp at h
theorem generator_l0 : ∀ (k : Nat) (q x p m : Int) (mod r : List Int), field_generator.l0 k q x p m mod = some r → r ≠ [] → (r.length : Int) = wrap64 (q - 1) ∧ ∃ k' y, field_powers.f k' p m mod q y = some r
  | 0, q, x, p, m, mod, r, h, _ => by simp [field_generator.l0] at h
  | k + 1, q, x, p, m, mod, r, h, hr => by
    simp only [field_generator.l0] at h
    split at h
    · obtain ⟨t, ht, h⟩ := Option.bind_eq_some_iff.mp h
      split at h
      · rename_i c1
        split at h
        · split at h
          · obtain ⟨u, _, h⟩ := Option.bind_eq_some_iff.mp h
            split at h
            · obtain rfl := Option.some.inj h
              exact ⟨c1, k, x, ht⟩
            · exact generator_l0 k q _ p m mod r h hr
          · simp at h
        · simp at h
      · exact generator_l0 k q _ p m mod r h hr
    · exact absurd (Option.some.inj h).symm hr
theorem New_l0 : ∀ (k : Nat) (lg e : List Int) (n i : Int) (r : List Int), field_New.l0 k lg e n i = some r → 0 ≤ i → i ≤ 300 → n ≤ 300 → (∀ z ∈ lg, 0 ≤ z ∧ z < n) → r.length = lg.length ∧ ∀ z ∈ r, 0 ≤ z ∧ z < n
  | 0, lg, e, n, i, r, h, _, _, _, _ => by simp [field_New.l0] at h
  | k + 1, lg, e, n, i, r, h, i0, i3, n3, hz => by
    simp only [field_New.l0] at h
    split at h
    · rename_i c1
      split at h
      · split at h
        · split at h
          · rw [w64 (by omega) (by omega)] at h
            have := New_l0 k _ e n (i + 1) r h (by omega) (by omega) n3 (by
              intro z hz'
              rcases List.mem_or_eq_of_mem_set hz' with h1 | h1
              · exact hz z h1
              · subst h1; exact ⟨i0, c1⟩)
            rw [List.length_set] at this
            exact this
          · simp at h
        · simp at h
      · simp at h
    · obtain rfl := Option.some.inj h
      exact ⟨rfl, hz⟩
theorem field_New_wf (g : Nat) {k : Nat} {P M : Int} {Mod : List Int} {n : Int × List Int × List Int} (h : field_New.f k P M Mod = some n) (hn : ¬ n.2.1 = []) : (GFd.mk g P M Mod n.1 n.2.1 n.2.2).Wf := by
  unfold field_New.f at h
  obtain ⟨sh, hs, h⟩ := Option.bind_eq_some_iff.mp h
  split at h
  · rename_i c0
    subst c0
    obtain ⟨k', q', hq', q0', _, hmod⟩ := shape_spec hs
    obtain ⟨p2, p256, m1, m8, _, _⟩ := order_spec hq' q0'
    obtain ⟨q, hq, h⟩ := Option.bind_eq_some_iff.mp h
    obtain ⟨ex, hg, h⟩ := Option.bind_eq_some_iff.mp h
    split at h
    · obtain rfl := Option.some.inj h
      exact absurd rfl hn
    · rename_i c1
      have hex : ex ≠ [] := fun e => c1 (by rw [e]; rfl)
      obtain ⟨hl, k2, y, hp⟩ := generator_l0 _ _ _ _ _ _ _ hg hex
      have hb := powers_spec hp
      have hq0 : q ≠ 0 := by
        intro e
        subst e
        cases ex with
        | nil => exact hex rfl
        | cons a l => have := hb a List.mem_cons_self; omega
      obtain ⟨_, _, _, _, q2, q256⟩ := order_spec hq hq0
      rw [w64 (by omega) (by omega)] at hl
      split at h
      · split at h
        · split at h
          · obtain ⟨lg, hlg, h⟩ := Option.bind_eq_some_iff.mp h
            obtain rfl := Option.some.inj h
            obtain ⟨h1, h2⟩ := New_l0 _ _ _ _ _ _ hlg (by omega) (by omega) (by omega) (by
              intro z hz
              rw [List.eq_of_mem_replicate hz]
              exact ⟨by omega, by
                cases ex with
                | nil => exact absurd rfl hex
                | cons a l => simp only [List.length_cons]; omega⟩)
            rw [List.length_replicate] at h1
            have hexl : 0 < ex.length := by
              cases ex with
              | nil => exact absurd rfl hex
              | cons a l => simp
            exact { p2 := p2, p256 := p256, m1 := m1, m8 := m8, q2 := q2, q256 := q256, expl := hl, logl := by simp only [h1]; omega,
                    expb := rd_mem (P := fun z => 0 ≤ z ∧ z < q) (by omega) (fun x hx => by have := hb x hx; omega),
                    logb := rd_mem (P := fun z => 0 ≤ z ∧ z < q - 1) (by omega) (fun x hx => by have := h2 x hx; omega),
                    modl := by
                      rcases hmod with ⟨_, e⟩ | ⟨_, e, _⟩
                      · simp [e]
                      · simp only [e]; exact m8 }
          · simp at h
        · simp at h
      · simp at h
  · obtain rfl := Option.some.inj h
    exact absurd rfl hn
attribute [local go_sem] max2_int min2_int max_two min_two max_three min_three max_four min_four
set_option linter.unusedVariables false
set_option linter.unusedSimpArgs false
set_option maxHeartbeats 8000000
set_option maxRecDepth 100000
mutual
def codewrightref04_Order.j0 : Nat → Bool → Int → Int → List Int → Option (Int)
 | 0, _, _, _, _ => none
 | k + 1, x17, x102000, x102001, x102002 => if x17 = true then (some 0) else (codewrightref04_Order.l0 k 1 0 x102000 x102001 x102002)
def codewrightref04_Order.l0 : Nat → Int → Int → Int → Int → List Int → Option (Int)
 | 0, _, _, _, _, _ => none
 | k + 1, x3, x4, x102000, x102001, x102002 => if x4 < x102001 then (if x102000 = 0 then (none) else (if x3 > (wrap64 (Int.tdiv (256 : Int) x102000)) then (some 0) else (codewrightref04_Order.l0 k (wrap64 (x3 * x102000)) (wrap64 (x4 + 1)) x102000 x102001 x102002))) else (some x3)
end
def codewrightref04_Order.f (k : Nat) (a0_0 : Int) (a0_1 : Int) (l0_2 : List Int) : Option (Int) := if a0_0 < 2 then (codewrightref04_Order.j0 k true a0_0 a0_1 l0_2) else (if a0_1 < 1 then (codewrightref04_Order.j0 k true a0_0 a0_1 l0_2) else (codewrightref04_Order.j0 k (decide (a0_1 > 8)) a0_0 a0_1 l0_2))
theorem codewrightref04_Order.calls (k : Nat) (a0_0 : Int) (a0_1 : Int) (A0_2 : Option Addr) (c0_2 : Nat) (l0_2 : List Int) (r : Int) (w : World) (hr0_2 : Kd.C (Kd.int .i64) w A0_2 l0_2.length l0_2) (hc0_2 : l0_2.length ≤ c0_2) (h : codewrightref04_Order.f k a0_0 a0_1 l0_2 = some r) :
  Calls Try.prog 91 #[.agg #[.int .i64 a0_0, .int .i64 a0_1, .slice A0_2 l0_2.length c0_2]] w fun e w' => e = .returned (.int .i64 r) ∧ Below w.heap.size w w' := by
 have hu33 := Try.underlying33; have HR0_2 := Aside0.mk hr0_2; have HC0_2 := Aside0.mk hc0_2; clear hr0_2 hc0_2; have HB := Aside0.mk (Below.refl w.heap.size w); have H : (if a0_0 < 2 then (codewrightref04_Order.j0 k true a0_0 a0_1 l0_2) else (if a0_1 < 1 then (codewrightref04_Order.j0 k true a0_0 a0_1 l0_2) else (codewrightref04_Order.j0 k (decide (a0_1 > 8)) a0_0 a0_1 l0_2))) = some r := h; clear h; have HC2 := Aside0.mk H; clear H; go_enter Try.func91, Try.ntmps91; go_upto_region 1 with (first | ((with_reducible refine gate_dst (N := 1) rfl ?_); refine bx (cs := #[.int .i64 a0_0, .int .i64 a0_1, .slice A0_2 l0_2.length c0_2]) (t := 33) ?_; intro gb101 hg w3 hbox hb; have BK101 := Aside0.mk (hbox); have GW101 := Aside0.mk ((by rw [hg]; exact bsz : w.heap.size ≤ gb101)); have GE101 := Aside0.mk ((by rw [hg]; exact bsz : w.heap.size ≤ gb101)); replace HB := bst hb; clear hb hbox hg))
 (try simp only [Act.put, List.setIfInBounds_toArray, List.set_cons_zero, List.set_cons_succ])
 go_cut [17] (fun v17 wc => ∃ (kq : Nat) (x17_1 : Bool), v17 = .bool x17_1 ∧ Aside0 (codewrightref04_Order.j0 kq x17_1 a0_0 a0_1 l0_2 = some r) ∧ Aside0 (kq ≤ k) ∧ Aside0 (wc.heap[gb101]? = some (.cells #[.int .i64 a0_0, .int .i64 a0_1, (.slice A0_2 l0_2.length c0_2)] 33 (0, 0))) ∧ Aside0 (Below w.heap.size w wc))
 case first =>
  have H := HC2.out; clear HC2
  by_cases c4 : a0_0 < 2
  ·rw [if_pos c4] at H; have c4b0 : decide (a0_0 < 2) = true := decide_eq_true c4; clear c4; (first | rw [c4b0] | (simp only [i64_w, i32_w]; rw [c4b0]) | skip)
   have H' := Aside0.mk H; clear H; obtain ⟨hcz5_0, hcz5_1, hcz5_2, hfz5_0, hfz5_1, hfz5_2⟩ := b3 BK101; go_wp2; go_meet
   case rel => exact ⟨_, (true), rs, H', ⟨by first | omega | exact Nat.le_refl _⟩, ⟨ba BK101⟩, ⟨bel⟩⟩
  ·rw [if_neg c4] at H; have c4b0 : decide (a0_0 < 2) = false := decide_eq_false c4; clear c4; (first | rw [c4b0] | (simp only [i64_w, i32_w]; rw [c4b0]) | skip)
   by_cases c6 : a0_1 < 1
   ·rw [if_pos c6] at H; have c6b0 : decide (a0_1 < 1) = true := decide_eq_true c6; clear c6; have H' := Aside0.mk H; clear H; obtain ⟨hcz7_0, hcz7_1, hcz7_2, hfz7_0, hfz7_1, hfz7_2⟩ := b3 BK101; go_wp2; go_meet
    case rel => exact ⟨_, (true), rs, H', ⟨by first | omega | exact Nat.le_refl _⟩, ⟨ba BK101⟩, ⟨bel⟩⟩
   ·rw [if_neg c6] at H; have c6b0 : decide (a0_1 < 1) = false := decide_eq_false c6; clear c6; have H' := Aside0.mk H; clear H; obtain ⟨hcz8_0, hcz8_1, hcz8_2, hfz8_0, hfz8_1, hfz8_2⟩ := b3 BK101; go_wp2; go_meet
    case rel => exact ⟨_, (decide (a0_1 > 8)), rs, H', ⟨by first | omega | exact Nat.le_refl _⟩, ⟨ba BK101⟩, ⟨bel⟩⟩
 case rest =>
  clear HC2; obtain ⟨kq, x17_1, rfl, HA, HJ1, BK101, HB⟩ := hcut; rcases kq with _ | kj1
  ·exact absurd HA.out (by simp [codewrightref04_Order.j0])
  have H := HA.out; clear HA; simp only [codewrightref04_Order.j0] at H
  by_cases c9 : x17_1 = true
  ·subst c9; have H1 : (some 0) = some r := by rw [if_pos rfl] at H; exact H
   clear H; have H := H1; clear H1; obtain rfl := Option.some.inj H; go_wp2; go_ret; exact ⟨ren, bel⟩
  ·replace c9 := Bool.eq_false_iff.mpr c9; subst c9; have H1 : (codewrightref04_Order.l0 kj1 1 0 a0_0 a0_1 l0_2) = some r := by rw [if_neg (show ¬ (false = true) by decide)] at H; exact H
   clear H; have H := H1; clear H1; have H' := Aside0.mk H; clear H; go_wp2; go_loopg [3, 4] kj1 (fun kq v3 v4 w' => ∃ (x3_2 : Int) (x4_2 : Int), v3 = .int .i64 x3_2 ∧ v4 = .int .i64 x4_2 ∧ Aside0 (codewrightref04_Order.l0 kq x3_2 x4_2 a0_0 a0_1 l0_2 = some r) ∧ Aside0 (kq ≤ kj1) ∧ Aside0 (w'.heap[gb101]? = some (.cells #[.int .i64 a0_0, .int .i64 a0_1, (.slice A0_2 l0_2.length c0_2)] 33 (0, 0))) ∧ Aside0 (Below w.heap.size w w'))
   case atStart => exact ⟨(1), (0), rs, rs, H', ⟨Nat.le_refl _⟩, ⟨ba BK101⟩, ⟨bel⟩⟩
   case round =>
    clear H'; obtain ⟨x3_2, x4_2, rfl, rfl, HA, HK2, BK101, HB⟩ := hrel; rcases gk with _ | k2
    ·exact absurd HA.out (by simp [codewrightref04_Order.l0])
    have H := HA.out; clear HA; simp only [codewrightref04_Order.l0] at H
    by_cases c10 : x4_2 < a0_1
    ·rw [if_pos c10] at H; have c10b0 : decide (x4_2 < a0_1) = true := decide_eq_true c10; clear c10; replace H := ifn H; obtain ⟨c11, H⟩ := H; have c11b0 : (a0_0 == 0) = false := beq_eq_false_iff_ne.mpr c11; have c11b1 : (a0_0 != 0) = true := bne_iff_ne.mpr c11
     by_cases c12 : x3_2 > (wrap64 (Int.tdiv (256 : Int) a0_0))
     ·rw [if_pos c12] at H; have c12b0 : decide ((wrap64 (Int.tdiv (256 : Int) a0_0)) < x3_2) = true := decide_eq_true c12; clear c12; obtain rfl := Option.some.inj H; obtain ⟨hcz13_0, hcz13_1, hcz13_2, hfz13_0, hfz13_1, hfz13_2⟩ := b3 BK101; go_wp2; go_ret; exact ⟨ren, bel⟩
     ·rw [if_neg c12] at H; have c12b0 : decide ((wrap64 (Int.tdiv (256 : Int) a0_0)) < x3_2) = false := decide_eq_false c12; clear c12; have H' := Aside0.mk H; clear H; obtain ⟨hcz14_0, hcz14_1, hcz14_2, hfz14_0, hfz14_1, hfz14_2⟩ := b3 BK101; go_wp2; go_roundg k2
      case measure => have := HJ1.out; have := HK2.out; omega
      case rel => exact ⟨(wrap64 (x3_2 * a0_0)), (wrap64 (x4_2 + 1)), rs, rs, H', ⟨by have := HJ1.out; have := HK2.out; omega⟩, ⟨ba BK101⟩, ⟨bel⟩⟩
    ·rw [if_neg c10] at H; have c10b0 : decide (x4_2 < a0_1) = false := decide_eq_false c10; clear c10; obtain rfl := Option.some.inj H; obtain ⟨hcz15_0, hcz15_1, hcz15_2, hfz15_0, hfz15_1, hfz15_2⟩ := b3 BK101; go_wp2; go_ret; exact ⟨ren, bel⟩
def codewrightref04_prime.l0 : Nat → Int → Int → Option (Bool)
 | 0, _, _ => none
 | k + 1, x0, x3 => if x3 < x0 then (if x3 = 0 then (none) else (if (Int.tmod x0 x3) = 0 then (some false) else (codewrightref04_prime.l0 k x0 (wrap64 (x3 + 1))))) else (some true)
def codewrightref04_prime.f (k : Nat) (a0 : Int) : Option (Bool) := codewrightref04_prime.l0 k a0 2
theorem codewrightref04_prime.calls (k : Nat) (a0 : Int) (r : Bool) (w : World) (h : codewrightref04_prime.f k a0 = some r) :
  Calls Try.prog 102 #[.int .i64 a0] w fun e w' => e = .returned (.bool r) ∧ Drawn0 w w' := by
 have H : (codewrightref04_prime.l0 k a0 2) = some r := h; clear h; have H' := Aside0.mk H; clear H; go_enter Try.func102, Try.ntmps102; go_wp2; go_loopg [3] k (fun kq v3 w' => ∃ (x3_1 : Int), v3 = .int .i64 x3_1 ∧ Aside0 (codewrightref04_prime.l0 kq a0 x3_1 = some r) ∧ Aside0 (kq ≤ k) ∧ Drawn0 w w')
 case atStart => exact ⟨(2), rs, H', ⟨Nat.le_refl _⟩, by repeat (first | exact Drawn0.refl _ | apply Drawn0.step)⟩
 clear H'; obtain ⟨x3_1, rfl, HA, HK1, ⟨m1, rfl⟩⟩ := hrel; rcases gk with _ | k1
 ·exact absurd HA.out (by simp [codewrightref04_prime.l0])
 have H := HA.out; clear HA; simp only [codewrightref04_prime.l0] at H
 by_cases c2 : x3_1 < a0
 ·rw [if_pos c2] at H; have c2b0 : decide (x3_1 < a0) = true := decide_eq_true c2; clear c2; replace H := ifn H; obtain ⟨c3, H⟩ := H; have c3b0 : (x3_1 == 0) = false := beq_eq_false_iff_ne.mpr c3; have c3b1 : (x3_1 != 0) = true := bne_iff_ne.mpr c3
  by_cases c4 : (Int.tmod a0 x3_1) = 0
  ·rw [if_pos c4] at H; have c4b0 : ((Int.tmod a0 x3_1) == 0) = true := beq_iff_eq.mpr c4; have c4b1 : ((Int.tmod a0 x3_1) != 0) = false := bne_eq_false_iff_eq.mpr c4; clear c4; obtain rfl := Option.some.inj H; go_wp2; go_ret; exact ⟨by first | rfl | (simp; done) | (simp [*]; done), by repeat (first | exact Drawn0.refl _ | apply Drawn0.step)⟩
  rw [if_neg c4] at H; have c4b0 : ((Int.tmod a0 x3_1) == 0) = false := beq_eq_false_iff_ne.mpr c4; have c4b1 : ((Int.tmod a0 x3_1) != 0) = true := bne_iff_ne.mpr c4; have H' := Aside0.mk H; clear H; go_wp2; go_roundg k1
  case measure => have := HK1.out; omega
  case rel => exact ⟨(wrap64 (x3_1 + 1)), rs, H', ⟨by have := HK1.out; omega⟩, by repeat (first | exact Drawn0.refl _ | apply Drawn0.step)⟩
 rw [if_neg c2] at H; have c2b0 : decide (x3_1 < a0) = false := decide_eq_false c2; clear c2; obtain rfl := Option.some.inj H; go_wp2; go_ret; exact ⟨by first | rfl | (simp; done) | (simp [*]; done), by repeat (first | exact Drawn0.refl _ | apply Drawn0.step)⟩
def codewrightref04_digits.l0 : Nat → Int → Int → Int → List Int → Int → Option (List Int)
 | 0, _, _, _, _, _ => none
 | k + 1, x0, x1, x2, x7, x8 => if x8 < x2 then (if x1 = 0 then (none) else (if 0 ≤ x8 then (if x8 < (x7.length : Int) then (codewrightref04_digits.l0 k (wrap64 (Int.tdiv x0 x1)) x1 x2 (x7.set (x8 : Int).toNat (Int.tmod x0 x1)) (wrap64 (x8 + 1))) else (none)) else (none))) else (some x7)
def codewrightref04_digits.f (k : Nat) (a0 : Int) (a1 : Int) (a2 : Int) : Option (List Int) := if 0 ≤ a2 then (if (a2 : Int).toNat ≤ 35184372088832 then (codewrightref04_digits.l0 k a0 a1 a2 (List.replicate (a2 : Int).toNat 0) 0) else (none)) else (none)
theorem codewrightref04_digits.calls (k : Nat) (a0 : Int) (a1 : Int) (a2 : Int) (r : List Int) (w : World) (h : codewrightref04_digits.f k a0 a1 a2 = some r) :
  Calls Try.prog 115 #[.int .i64 a0, .int .i64 a1, .int .i64 a2] w fun e w' => ∃ v0_ : Value, e = .returned (v0_) ∧ Kd.R (Kd.int .i64) 3 w' w.heap.size (fun _ => True) v0_ r ∧ Below w.heap.size w w' := by
 have HB := Aside0.mk (Below.refl w.heap.size w); have H : (if 0 ≤ a2 then (if (a2 : Int).toNat ≤ 35184372088832 then (codewrightref04_digits.l0 k a0 a1 a2 (List.replicate (a2 : Int).toNat 0) 0) else (none)) else (none)) = some r := h; clear h; replace H := ift H; obtain ⟨c4b0, c4b1, H⟩ := H; replace H := ift H; obtain ⟨c5b0, c5b1, H⟩ := H; generalize hy102 : ((List.replicate (a2 : Int).toNat 0) : List Int) = y102 at H; have Ny102 := Aside0.mk hy102.symm; clear hy102; have H' := Aside0.mk H; clear H; go_enter Try.func115, Try.ntmps115; go_wp2_with (first | ((with_reducible refine gate_dst (N := 10) rfl ?_); refine Kd.R_make (Kd.int .i64) _ 3 rfl (N := 10) rfl 31 _ _ rfl a2 rfl rfl Try.underlying31 (.int .i64 0) 8 info3 rfl (by decide) (by omega) 0 (ok := fun _ => True) (okp := fun _ => True) rfl (fun _ hk => hk) trivial (oda) (Nat.le_trans (Nat.mul_le_mul_right _ (oda : a2.toNat ≤ 35184372088832)) (by omega)) (Below.refl _ _) (Nat.le_refl _) ?_; intro v103 w6 ho7 hb hg_ hnew_; clear hg_ hnew_; (first | rw [← Ny102.out] at ho7 | (simp only [Int.reduceToNat] at ho7; rw [← Ny102.out] at ho7)); have HO104 := Aside0.mk (Kd.R_lower ho7 bsz); replace HB := bst hb; clear hb ho7))
 go_loopg [0, 8] k (fun kq v0 v8 w' => ∃ (x0_1 : Int) (x7_1 : List Int) (x8_1 : Int), v0 = .int .i64 x0_1 ∧ v8 = .int .i64 x8_1 ∧ Aside0 (codewrightref04_digits.l0 kq x0_1 a1 a2 x7_1 x8_1 = some r) ∧ Aside0 (kq ≤ k) ∧ Aside0 (Kd.R (Kd.int .i64) 3 w' w.heap.size (fun _ => True) v103 x7_1) ∧ Aside0 (Below w.heap.size w w'))
 case atStart => exact ⟨(a0), (y102), (0), rs, rs, H', ⟨Nat.le_refl _⟩, ⟨ra HO104⟩, ⟨bel⟩⟩
 clear H'; obtain ⟨x0_1, x7_1, x8_1, rfl, rfl, HA, HK1, HO_7, HB⟩ := hrel; rcases gk with _ | k1
 ·exact absurd HA.out (by simp [codewrightref04_digits.l0])
 have H := HA.out; clear HA; simp only [codewrightref04_digits.l0] at H
 by_cases c8 : x8_1 < a2
 ·rw [if_pos c8] at H; have c8b0 : decide (x8_1 < a2) = true := decide_eq_true c8; clear c8; replace H := ifn H; obtain ⟨c9, H⟩ := H; have c9b0 : (a1 == 0) = false := beq_eq_false_iff_ne.mpr c9; have c9b1 : (a1 != 0) = true := bne_iff_ne.mpr c9; replace H := ifd H; obtain ⟨c10b0, H⟩ := H; replace H := ifd H; obtain ⟨c11b0, H⟩ := H; generalize hy105 : ((x7_1.set (x8_1 : Int).toNat (Int.tmod x0_1 a1)) : List Int) = y105 at H; have Ny105 := Aside0.mk hy105.symm; clear hy105; have H' := Aside0.mk H; clear H; have p12 : 0 ≤ (x8_1 : Int) := oda; have q12 : (x8_1 : Int) < ((x7_1.length : Int) : Int) := oda; obtain ⟨go12, co12, eo12, gb12, gl12, cl12, HG12⟩ := Kd.R_form HO_7.out (by omega); (first | cases eo12 | (injection eo12 with ea_ en_ ec_; (first | subst ea_ | (injection ea_ with ea_; subst ea_)); subst ec_; clear en_)); have GB12 := Aside0.mk gb12; have GG12 := Aside0.mk HG12; clear gb12 gl12 HG12; obtain ⟨hx12_0, hf12_0⟩ := Kd.R_celln 0 HO_7.out (x8_1 : Int) p12 q12; replace p12 := eq_true p12; replace q12 := eq_true q12; have HP13 := Kd.R_putg HO_7.out (x8_1 : Int) (Int.tmod x0_1 a1); go_wp2_with (first | ((with_reducible refine gate_store (t := 3) (p := 21) rfl ?_); refine store_event (t := 3) (p := 21) (v := ?vo_w14) (w1 := (wr.setCell ⟨go12, (x8_1 : Int).toNat, none⟩ (.int .i64 (Int.tmod x0_1 a1)))) ?hg ?ho ?hn ?hr ?_; (case ho => rfl); (case hg => rfl); (case hn => rfl); (case hr => first | (go_simp; done) | (go_simp; rfl)); intro w14 hw; have hg : wr.grownBy w14 (some go12) := (by rw [hw]; exact HP13.2); have hp_ : Kd.R (Kd.int .i64) 3 w14 w.heap.size (fun _ => True) (.slice (some ⟨go12, 0, none⟩) x7_1.length co12) y105 := (by rw [hw, Ny105.out]; exact HP13.1); clear HP13; replace HO_7 := Aside0.mk (hp_); replace HB := Aside0.mk ((by rw [hw]; exact below_set (HB.out) GB12.out : Below w.heap.size w w14)); clear hg hw hp_)); go_roundg k1
  case measure => have := HK1.out; omega
  case rel => exact ⟨(wrap64 (Int.tdiv x0_1 a1)), (y105), (wrap64 (x8_1 + 1)), rs, rs, H', ⟨by have := HK1.out; omega⟩, ⟨ra HO_7⟩, ⟨bel⟩⟩
 rw [if_neg c8] at H; have c8b0 : decide (x8_1 < a2) = false := decide_eq_false c8; clear c8; obtain rfl := Option.some.inj H; go_wp2; go_ret; exact ⟨_, ren, by (with_reducible repeat (first | apply Kd.R_alloc | apply Kd.R_drewN | apply Kd.R_drew)); exact HO_7.out, bel⟩
mutual
def codewrightref04_divides.l0 : Nat → List Int → Int → Int → List Int → Int → Option (Bool)
 | 0, _, _, _, _, _ => none
 | k + 1, x0, x2, x7, x8, x9 => if x9 ≥ x7 then (if 0 ≤ x9 then (if x9 < (x8.length : Int) then (codewrightref04_divides.l1 k x0 x2 x7 x8 x9 (rd x8 x9) 0) else (none)) else (none)) else (codewrightref04_divides.l2 k x8 0)
def codewrightref04_divides.l1 : Nat → List Int → Int → Int → List Int → Int → Int → Int → Option (Bool)
 | 0, _, _, _, _, _, _, _ => none
 | k + 1, x0, x2, x7, x8, x9, x10, x11 => if x11 < x7 then (if 0 ≤ (wrap64 ((wrap64 (x9 - x7)) + x11)) then (if (wrap64 ((wrap64 (x9 - x7)) + x11)) < (x8.length : Int) then (if 0 ≤ x11 then (if x11 < (x0.length : Int) then (if x2 = 0 then (none) else (codewrightref04_divides.l1 k x0 x2 x7 (x8.set ((wrap64 ((wrap64 (x9 - x7)) + x11)) : Int).toNat (Int.tmod (wrap64 ((rd x8 (wrap64 ((wrap64 (x9 - x7)) + x11))) + (wrap64 ((wrap64 (x2 - x10)) * (rd x0 x11))))) x2)) x9 x10 (wrap64 (x11 + 1)))) else (none)) else (none)) else (none)) else (none)) else (if 0 ≤ x9 then (if x9 < (x8.length : Int) then (codewrightref04_divides.l0 k x0 x2 x7 (x8.set (x9 : Int).toNat 0) (wrap64 (x9 - 1))) else (none)) else (none))
def codewrightref04_divides.l2 : Nat → List Int → Int → Option (Bool)
 | 0, _, _ => none
 | k + 1, x8, x12 => if x12 < (x8.length : Int) then (if 0 ≤ x12 then (if (rd x8 x12) = 0 then (codewrightref04_divides.l2 k x8 (wrap64 (x12 + 1))) else (some false)) else (none)) else (some true)
end
def codewrightref04_divides.f (k : Nat) (l0 : List Int) (l1 : List Int) (a2 : Int) : Option (Bool) := (some (([] : List Int) : List Int)).bind fun y106 => (if y106.length + l1.length < 17592186044416 then ((some (y106 ++ l1 : List Int)).bind fun y109 => (if y109.length < 17592186044416 then ((some (y109 ++ [1] : List Int)).bind fun y112 => (codewrightref04_divides.l0 k l0 a2 (l0.length : Int) y112 (wrap64 ((y112.length : Int) - 1)))) else (none))) else (none))
def codewrightref04_divides.T11 : Bool × List (List Nat × List Nat) := (true, [([], []), ([], []), ([], []), ([1, 2], [1, 2]), ([], []), ([3, 4], [3, 4]), ([], []), ([], []), ([], []), ([7, 8], [7, 8]), ([], []), ([9, 10], [9, 10]), ([6, 11], [6, 11]), ([12], [12]), ([], []), ([], []), ([14, 15], [14, 15]), ([], []), ([], []), ([17, 18], [17, 18]), ([19], [19]), ([16, 20], [16, 20]), ([13, 21], [13, 21]), ([], []), ([22, 23], [22, 23]), ([0, 5, 0, 1, 2, 3, 4, 5, 6, 7, 8, 9, 10, 11, 12, 13, 14, 15, 16, 17, 18, 19, 20, 21, 22, 23, 24], [0, 5]), ([25, 24, 0, 1, 2, 3, 4, 5, 6, 7, 8, 9, 10, 11, 12, 13, 14, 15, 16, 17, 18, 19, 20, 21, 22, 23, 24], [24, 25])])
def codewrightref04_divides.B11 : List Nat := [0, 0, 0, 6, 0, 30, 0, 0, 0, 384, 0, 1920, 4032, 8128, 0, 0, 49152, 0, 0, 393216, 917504, 2080768, 4194240, 0, 16777152, 33554431, 67108863]
theorem codewrightref04_divides.tab11 : rtab .any (opsOf Try.f125 11) = codewrightref04_divides.T11 := by kernel_rfl
theorem codewrightref04_divides.bits11 : waitsOk codewrightref04_divides.T11.2 codewrightref04_divides.B11 = true := by kernel_rfl
theorem codewrightref04_divides.calls (k : Nat) (A0 : Option Addr) (c0 : Nat) (l0 : List Int) (A1 : Option Addr) (c1 : Nat) (l1 : List Int) (a2 : Int) (r : Bool) (w : World) (hr0 : Kd.C (Kd.int .i64) w A0 l0.length l0) (hc0 : l0.length ≤ c0) (hr1 : Kd.C (Kd.int .i64) w A1 l1.length l1) (hc1 : l1.length ≤ c1) (h : codewrightref04_divides.f k l0 l1 a2 = some r) :
  Calls Try.prog 125 #[.slice A0 l0.length c0, .slice A1 l1.length c1, .int .i64 a2] w fun e w' => e = .returned (.bool r) ∧ Below w.heap.size w w' := by
 have HR0 := Aside0.mk hr0; have HC0 := Aside0.mk hc0; clear hr0 hc0; have HR1 := Aside0.mk hr1; have HC1 := Aside0.mk hc1; clear hr1 hc1; have HB := Aside0.mk (Below.refl w.heap.size w); have H : ((some (([] : List Int) : List Int)).bind fun y106 => (if y106.length + l1.length < 17592186044416 then ((some (y106 ++ l1 : List Int)).bind fun y109 => (if y109.length < 17592186044416 then ((some (y109 ++ [1] : List Int)).bind fun y112 => (codewrightref04_divides.l0 k l0 a2 (l0.length : Int) y112 (wrap64 ((y112.length : Int) - 1)))) else (none))) else (none))) = some r := h; clear h; obtain ⟨y106, hy106⟩ : ∃ y_ : List Int, y_ = (([] : List Int)) := ⟨_, rfl⟩; replace H : (if y106.length + l1.length < 17592186044416 then ((some (y106 ++ l1 : List Int)).bind fun y109 => (if y109.length < 17592186044416 then ((some (y109 ++ [1] : List Int)).bind fun y112 => (codewrightref04_divides.l0 k l0 a2 (l0.length : Int) y112 (wrap64 ((y112.length : Int) - 1)))) else (none))) else (none)) = some r := by first | (rw [hy106]; with_reducible exact H) | (have H2_ := (Option.bind_some _ _).symm.trans H; rw [hy106]; with_reducible exact H2_) | (have H2_ := (Option.bind_some _ _).symm.trans H; with_reducible exact H2_) | with_reducible exact H | (rw [hy106]; exact H) | exact H
 have Ny106 := Aside0.mk hy106; clear hy106; replace H := ifp H; obtain ⟨c4, H⟩ := H; have LMc4 := Aside0.mk c4; clear c4; obtain ⟨y109, hy109⟩ : ∃ y_ : List Int, y_ = (y106 ++ l1) := ⟨_, rfl⟩; replace H : (if y109.length < 17592186044416 then ((some (y109 ++ [1] : List Int)).bind fun y112 => (codewrightref04_divides.l0 k l0 a2 (l0.length : Int) y112 (wrap64 ((y112.length : Int) - 1)))) else (none)) = some r := by first | (rw [hy109]; with_reducible exact H) | (have H2_ := (Option.bind_some _ _).symm.trans H; rw [hy109]; with_reducible exact H2_) | (have H2_ := (Option.bind_some _ _).symm.trans H; with_reducible exact H2_) | with_reducible exact H | (rw [hy109]; exact H) | exact H
 have Ny109 := Aside0.mk hy109; clear hy109; replace H := ifp H; obtain ⟨c5, H⟩ := H; have LMc5 := Aside0.mk c5; clear c5; obtain ⟨y112, hy112⟩ : ∃ y_ : List Int, y_ = (y109 ++ [1]) := ⟨_, rfl⟩; replace H : (codewrightref04_divides.l0 k l0 a2 (l0.length : Int) y112 (wrap64 ((y112.length : Int) - 1))) = some r := by first | (rw [hy112]; with_reducible exact H) | (have H2_ := (Option.bind_some _ _).symm.trans H; rw [hy112]; with_reducible exact H2_) | (have H2_ := (Option.bind_some _ _).symm.trans H; with_reducible exact H2_) | with_reducible exact H | (rw [hy112]; exact H) | exact H
 have Ny112 := Aside0.mk hy112; clear hy112; have H' := Aside0.mk H; clear H; go_enter Try.func125, Try.ntmps125; go_wp2_with (first | ((with_reducible refine gate_dst (N := 15) rfl ?_); refine Kd.R_lit (Kd.int .i64) _ 3 ?hg (N := 15) ?hd (xs := ([] : List Int)) (inner := []) (ok := fun _ => True) (okp := fun _ => True) ?hr ?hp (fun _ hk => hk) trivial (Below.refl _ _) (Nat.le_refl _) (by simp) ?_; (case hd => rfl); (case hg => rfl); (case hr => first | (go_simp; done) | (go_simp; rfl)); (case hp => exact (Reps.none _ _)); intro v107 w6 ho7 hb hg_ hnew_; clear hg_ hnew_; (first | rw [← Ny106.out] at ho7 | (simp only [Int.reduceToNat] at ho7; rw [← Ny106.out] at ho7)); have HO108 := Aside0.mk (Kd.R_lower ho7 bsz); replace HB := bst hb; clear hb ho7) | ((with_reducible refine gate_builtin (b := .append) (xs := #[.tmp 15, .tmp 16]) rfl ?_); at_builtin; refine Kd.R_append_rows (Kd.int .i64) (w0 := w) w.heap.size rfl (.tmp 15) (.tmp 16) 31 3 (.int .i64 0) 8 rfl Try.underlying31 info3 rfl (by decide) (by omega) v107 y106 l1 _ _ _ (fun _ => True) (fun _ => False) rfl rfl ?aO ?aR (fun _ _ h => h) (fun _ h => h.elim) ?aF ?aB ?aS ?aL ?_; (case aR => repeat (first | exact (Kd.C_below HR1.out HB.out) | (with_reducible refine Kd.C_alloc ?_ _) | (with_reducible refine Kd.C_drewN ?_ _) | (with_reducible refine Kd.C_drew ?_))); (case aB => exact bel); (case aF => exact (fun _ _ => trivial)); (case aO => exact (ra HO108)); (case aS => exact bsz); (case aL => have := LMc4.out; omega); intro v110 w8 ho hb hg hat; rw [← Ny109.out] at ho; replace HB := Aside0.mk (hb); have HO111 := Aside0.mk (ho); clear HO108; clear ho hb hg hat) | ((with_reducible refine gate_builtin (b := .append) (xs := #[.tmp 18, .tmp 19]) rfl ?_); at_builtin; refine Kd.R_append (Kd.int .i64) (w0 := w) w.heap.size rfl (.tmp 18) (.tmp 19) 31 3 (.int .i64 0) 8 rfl Try.underlying31 info3 rfl (by decide) (by omega) v110 y109 1 [.int .i64 1] (fun _ => True) (fun _ => False) rfl rfl ?aP (fun _ hk => hk.elim) ?aF ?aO ?aB ?aS ?aL ?_; (case aP => exact rfl); (case aB => exact bel); (case aF => exact (fun _ _ => trivial)); (case aO => exact (ra HO111)); (case aS => exact bsz); (case aL => have := LMc5.out; omega); intro v113 w9 ho hb hg hat; rw [← Ny112.out] at ho; replace HB := Aside0.mk (hb); have HO114 := Aside0.mk (ho); clear HO111; clear ho hb hg hat; obtain ⟨Ao10, co10, eo10⟩ := Kd.R_slice HO114.out; subst eo10))
 go_loopg [9] k (fun kq v9 w' => ∃ (x8_1 : List Int) (x9_1 : Int), v9 = .int .i64 x9_1 ∧ Aside0 (codewrightref04_divides.l0 kq l0 a2 (l0.length : Int) x8_1 x9_1 = some r) ∧ Aside0 (kq ≤ k) ∧ Aside0 (Kd.R (Kd.int .i64) 3 w' w.heap.size (fun _ => True) (.slice Ao10 y112.length co10) x8_1) ∧ Aside0 (Below w.heap.size w w'))
 case atStart => exact ⟨(y112), (wrap64 ((y112.length : Int) - 1)), rs, H', ⟨Nat.le_refl _⟩, ⟨ra HO114⟩, ⟨bel⟩⟩
 clear H'; obtain ⟨x8_1, x9_1, rfl, HA, HK1, HO_8, HB⟩ := hrel; have hl8_1 := (Kd.R_reads' HO_8.out).1; rw [hl8_1] at HO_8
 (try simp only [hl8_1])
 rcases gk with _ | k1
 ·exact absurd HA.out (by simp [codewrightref04_divides.l0])
 have H := HA.out; clear HA; simp only [codewrightref04_divides.l0] at H
 by_cases c11 : x9_1 ≥ (l0.length : Int)
 ·rw [if_pos c11] at H; have c11b0 : decide ((l0.length : Int) ≤ x9_1) = true := decide_eq_true c11
  (try simp only [hl8_1] at c11b0)
  clear c11; replace H := ifd H; obtain ⟨c12b0, H⟩ := H; replace H := ifp H; obtain ⟨c13, H⟩ := H; have c13b0 : decide (x9_1 < (x8_1.length : Int)) = true := decide_eq_true c13
  (try simp only [hl8_1] at c13b0)
  clear c13; have H' := Aside0.mk H; clear H; have p115 : 0 ≤ (x9_1 : Int) := oda; have q115 : x9_1 < (x8_1.length : Int) := oda; obtain ⟨ad115, e115, hx115_0⟩ := Kd.at_int (Kd.R_reads' HO_8.out).2.2 x9_1 p115 q115; cases e115; replace p115 := eq_true p115; replace q115 := eq_true q115; go_wp2; generalize ad115.add x9_1.toNat = az_ at *; go_loopg [11] k1 (fun kq v11 w' => ∃ (x8_2 : List Int) (x11_2 : Int), v11 = .int .i64 x11_2 ∧ Aside0 (codewrightref04_divides.l1 kq l0 a2 (l0.length : Int) x8_2 x9_1 (rd x8_1 x9_1) x11_2 = some r) ∧ Aside0 (kq ≤ k1) ∧ Aside0 (Kd.R (Kd.int .i64) 3 w' w.heap.size (fun _ => True) (.slice (some ad115) x8_1.length co10) x8_2) ∧ Aside0 (Below w.heap.size w w'))
  case atStart => exact ⟨(x8_1), (0), rs, H', ⟨Nat.le_refl _⟩, ⟨by (try simp only [hl8_1]); (with_reducible repeat (first | apply Kd.R_alloc | apply Kd.R_drewN | apply Kd.R_drew)); exact HO_8.out⟩, ⟨bel⟩⟩
  clear H'; obtain ⟨x8_2, x11_2, rfl, HA, HK2, HO_8, HB⟩ := hrel; have hl8_2 := (Kd.R_reads' HO_8.out).1; rw [hl8_2] at HO_8
  (try simp only [hl8_2])
  rcases gk with _ | k2
  ·exact absurd HA.out (by simp [codewrightref04_divides.l1])
  have H := HA.out; clear HA; simp only [codewrightref04_divides.l1] at H
  by_cases c14 : x11_2 < (l0.length : Int)
  ·rw [if_pos c14] at H; have c14b0 : decide (x11_2 < (l0.length : Int)) = true := decide_eq_true c14
   (try simp only [hl8_1] at c14b0); (try simp only [hl8_2] at c14b0)
   clear c14; obtain ⟨ji15, hji15⟩ : ∃ j_ : Int, (wrap64 ((wrap64 (x9_1 - (l0.length : Int))) + x11_2)) = j_ := ⟨_, rfl⟩; replace H : (if 0 ≤ (ji15) then (if (ji15) < (x8_2.length : Int) then (if 0 ≤ x11_2 then (if x11_2 < (l0.length : Int) then (if a2 = 0 then (none) else (codewrightref04_divides.l1 k2 l0 a2 (l0.length : Int) (x8_2.set ((ji15) : Int).toNat (Int.tmod (wrap64 ((rd x8_2 (ji15)) + (wrap64 ((wrap64 (a2 - (rd x8_1 x9_1))) * (rd l0 x11_2))))) a2)) x9_1 (rd x8_1 x9_1) (wrap64 (x11_2 + 1)))) else (none)) else (none)) else (none)) else (none)) = some r := by first | (rw [hji15] at H; exact H) | (simp only [hji15] at H ⊢; exact H)
   have hji15w : (IntKind.i64.wrap ((wrap64 (x9_1 - (l0.length : Int))) + x11_2)) = ji15 := (i64_w _).trans hji15; replace H := ifd H; obtain ⟨c16b0, H⟩ := H; replace H := ifp H; obtain ⟨c17, H⟩ := H; have c17b0 : decide ((ji15) < (x8_2.length : Int)) = true := decide_eq_true c17
   (try simp only [hl8_1] at c17b0); (try simp only [hl8_2] at c17b0)
   clear c17; replace H := ifd H; obtain ⟨c18b0, H⟩ := H; replace H := ifp H; obtain ⟨c19, H⟩ := H; have c19b0 : decide (x11_2 < (l0.length : Int)) = true := decide_eq_true c19
   (try simp only [hl8_1] at c19b0); (try simp only [hl8_2] at c19b0)
   clear c19; replace H := ifn H; obtain ⟨c20, H⟩ := H; have c20b0 : (a2 == 0) = false := beq_eq_false_iff_ne.mpr c20; have c20b1 : (a2 != 0) = true := bne_iff_ne.mpr c20; obtain ⟨y118, hy118⟩ : ∃ y_ : List Int, y_ = (x8_2.set ((ji15) : Int).toNat (Int.tmod (wrap64 ((rd x8_2 (ji15)) + (wrap64 ((wrap64 (a2 - (rd x8_1 x9_1))) * (rd l0 x11_2))))) a2)) := ⟨_, rfl⟩; replace H : (codewrightref04_divides.l1 k2 l0 a2 (l0.length : Int) y118 x9_1 (rd x8_1 x9_1) (wrap64 (x11_2 + 1))) = some r := by first | (rw [hy118]; with_reducible exact H) | (have H2_ := (Option.bind_some _ _).symm.trans H; rw [hy118]; with_reducible exact H2_) | (have H2_ := (Option.bind_some _ _).symm.trans H; with_reducible exact H2_) | with_reducible exact H | (rw [hy118]; exact H) | exact H
   have Ny118 := Aside0.mk hy118; clear hy118; have H' := Aside0.mk H; clear H; try go_wp2
   replace HO_8 := Aside0.mk (Kd.R_drew HO_8.out); replace HB := Aside0.mk (below_drew1 HB.out); have p116 : 0 ≤ ((ji15) : Int) := oda; have q116 : (ji15) < (x8_2.length : Int) := oda; obtain ⟨ad116, e116, hx116_0⟩ := Kd.at_int (Kd.R_reads' HO_8.out).2.2 (ji15) p116 q116; obtain rfl : ad115 = ad116 := (by injection e116); replace p116 := eq_true p116; replace q116 := eq_true q116; have p117 : 0 ≤ (x11_2 : Int) := oda; have q117 : x11_2 < (l0.length : Int) := oda; obtain ⟨ad117, e117, hx117_0⟩ := Kd.at_int HR0.out x11_2 p117 q117; have hw117_0 := hx117_0; cases e117
   (try replace hx117_0 := hbc hx117_0)
   replace p117 := eq_true p117; replace q117 := eq_true q117; have p21 : 0 ≤ ((ji15) : Int) := oda; have q21 : ((ji15) : Int) < ((x8_2.length : Int) : Int) := oda; obtain ⟨go21, co21, eo21, gb21, gl21, cl21, HG21⟩ := Kd.R_form HO_8.out (by omega); (first | cases eo21 | (injection eo21 with ea_ en_ ec_; (first | subst ea_ | (injection ea_ with ea_; subst ea_)); subst ec_; clear en_))
   have GB21 := Aside0.mk gb21; have GG21 := Aside0.mk HG21; clear gb21 gl21 HG21; (first | simp only [add_plain] at hx115_0 | skip)
   (first | simp only [add_plain] at hx116_0 | skip)
   obtain ⟨hx21_0, hf21_0⟩ := Kd.R_celln 0 HO_8.out ((ji15) : Int) p21 q21; replace p21 := eq_true p21; replace q21 := eq_true q21; have HP23 := Kd.R_putn HO_8.out ((ji15) : Int) (Int.tmod (wrap64 ((rd x8_2 (ji15)) + (wrap64 ((wrap64 (a2 - (rd x8_1 x9_1))) * (rd l0 x11_2))))) a2); rw [← Ny118.out] at HP23; have HQ23 := Aside0.mk HP23; clear HP23; refine st_ (S := fun w' => w'.cell? ⟨go21, ((ji15)).toNat, none⟩ = some (.int .i64 (rd x8_2 (ji15))) ∧ w'.cell? (ad117.add (x11_2).toNat) = some (.int .i64 (rd l0 x11_2))) (ds := [26]) 27 codewrightref04_divides.tab11 codewrightref04_divides.bits11 ⟨hx116_0, (hbc hw117_0)⟩ fun hHeld HT_ HW_ => ?_
   generalize wr.drew = w22 at HO_8 HB GG21 HQ23 hf21_0 hx116_0 hx117_0 hx21_0 hHeld ⊢; refine pu 0 38 (bm 27 1) ?_; refine pu 1 39 (bm 27 3) ?_; refine pu 2 40 (bm 27 7) ?_; refine pu 3 41 (bm 27 15) ?_; refine pu 4 42 (bm 27 31) ?_; refine pu 5 43 (bm 27 63) ?_; refine pu 6 44 (bm 27 127) ?_; refine pu 7 45 (bm 27 255) ?_; refine pu 8 46 (bm 27 511) ?_; refine pu 9 47 (bm 27 1023) ?_; refine pu 10 48 (bm 27 2047) ?_; refine pu 11 49 (bm 27 4095) ?_; refine pu 12 50 (bm 27 8191) ?_; refine pu 14 52 (bm 27 24575) ?_; refine pu 15 53 (bm 27 57343) ?_; refine pu 16 54 (bm 27 122879) ?_; refine pu 17 55 (bm 27 253951) ?_; refine pu 18 56 (bm 27 516095) ?_; refine pu 19 57 (bm 27 1040383) ?_; refine pu 23 61 (bm 27 9428991) ?_; refine take_ (i := 13) (N := some 51) (v := ?_) (a' := ?_) (bm 27 9437183) rfl rfl (take_ofW HT_.out HW_.out (by kernel_rfl)) (fun _ _ _ h => h) (Or.inl ⟨by rfl, ?_⟩) hHeld ?_ ?_; rotate_left
   ·rintro w' ⟨s0, s1⟩; go_simp; with_reducible rfl
   rotate_left
   ·simp only [Act.put, List.setIfInBounds_toArray, List.set_cons_zero, List.set_cons_succ, i64_w, i32_w]; rfl
   refine take_ (i := 20) (N := some 58) (v := ?_) (a' := ?_) (bm 27 10485759) rfl rfl (take_ofW HT_.out HW_.out (by kernel_rfl)) (fun _ _ _ h => h) (Or.inl ⟨by rfl, ?_⟩) hHeld ?_ ?_; rotate_left
   ·rintro w' ⟨s0, s1⟩; go_simp; with_reducible rfl
   rotate_left
   ·simp only [Act.put, List.setIfInBounds_toArray, List.set_cons_zero, List.set_cons_succ, i64_w, i32_w]; rfl
   refine pu 21 59 (bm 27 12582911) ?_; refine pu 22 60 (bm 27 16777215) ?_; refine pu 24 62 (bm 27 33554431) ?_; refine pu 25 63 (bm 27 67108863) ?_; refine last_ (i := 26) (N := none) (bm 27 134217727) rfl rfl (one_of HT_.out (by kernel_rfl)) (by decide) fun K hK => ?_
   refine skip_ (w1 := ?_) (by rfl) rfl ?_ ?_; rotate_left
   ·go_simp; rfl
   refine hK.out _ _ ?_; clear hK K; refine dn ?_; try go_wp2
   (try simp only [← hl8_2])
   go_roundg k2
   case measure => have := HK1.out; have := HK2.out; omega
   case rel => exact ⟨(y118), (wrap64 (x11_2 + 1)), rs, H', ⟨by have := HK1.out; have := HK2.out; omega⟩, ⟨by (try simp only [hl8_1]); (try simp only [hl8_2]); (with_reducible repeat (first | apply Kd.R_alloc | apply Kd.R_drewN | apply Kd.R_drew)); exact HQ23.out⟩, ⟨bel⟩⟩
  rw [if_neg c14] at H; have c14b0 : decide (x11_2 < (l0.length : Int)) = false := decide_eq_false c14
  (try simp only [hl8_1] at c14b0); (try simp only [hl8_2] at c14b0)
  clear c14; replace H := ifd H; obtain ⟨c24b0, H⟩ := H; replace H := ifp H; obtain ⟨c25, H⟩ := H; have c25b0 : decide (x9_1 < (x8_2.length : Int)) = true := decide_eq_true c25
  (try simp only [hl8_1] at c25b0); (try simp only [hl8_2] at c25b0)
  clear c25; obtain ⟨y119, hy119⟩ : ∃ y_ : List Int, y_ = (x8_2.set (x9_1 : Int).toNat 0) := ⟨_, rfl⟩; replace H : (codewrightref04_divides.l0 k2 l0 a2 (l0.length : Int) y119 (wrap64 (x9_1 - 1))) = some r := by first | (rw [hy119]; with_reducible exact H) | (have H2_ := (Option.bind_some _ _).symm.trans H; rw [hy119]; with_reducible exact H2_) | (have H2_ := (Option.bind_some _ _).symm.trans H; with_reducible exact H2_) | with_reducible exact H | (rw [hy119]; exact H) | exact H
  have Ny119 := Aside0.mk hy119; clear hy119; have H' := Aside0.mk H; clear H; have p26 : 0 ≤ (x9_1 : Int) := oda; have q26 : (x9_1 : Int) < ((x8_2.length : Int) : Int) := oda; obtain ⟨go26, co26, eo26, gb26, gl26, cl26, HG26⟩ := Kd.R_form HO_8.out (by omega); (first | cases eo26 | (injection eo26 with ea_ en_ ec_; (first | subst ea_ | (injection ea_ with ea_; subst ea_)); subst ec_; clear en_))
  have GB26 := Aside0.mk gb26; have GG26 := Aside0.mk HG26; clear gb26 gl26 HG26; obtain ⟨hx26_0, hf26_0⟩ := Kd.R_celln 0 HO_8.out (x9_1 : Int) p26 q26; replace p26 := eq_true p26; replace q26 := eq_true q26; have HP27 := Kd.R_putg HO_8.out (x9_1 : Int) 0; go_wp2_with (first | ((with_reducible refine gate_store (t := 3) (p := 66) rfl ?_); refine store_event (t := 3) (p := 66) (v := ?vo_w28) (w1 := (wr.setCell ⟨go26, (x9_1 : Int).toNat, none⟩ (.int .i64 0))) ?hg ?ho ?hn ?hr ?_; (case ho => rfl); (case hg => rfl); (case hn => rfl); (case hr => first | (go_simp; done) | (go_simp; rfl)); intro w28 hw; have hg : wr.grownBy w28 (some go26) := (by rw [hw]; exact HP27.2); have hp_ : Kd.R (Kd.int .i64) 3 w28 w.heap.size (fun _ => True) (.slice (some ⟨go26, 0, none⟩) x8_2.length co10) y119 := (by rw [hw, Ny119.out]; exact HP27.1); clear HP27; replace HO_8 := Aside0.mk (hp_); replace HB := Aside0.mk ((by rw [hw]; exact below_set (HB.out) GB26.out : Below w.heap.size w w28)); clear hg hw hp_))
  (try simp only [← hl8_1, ← hl8_2])
  go_roundg k2
  case measure => have := HK1.out; have := HK2.out; omega
  case rel => exact ⟨(y119), (wrap64 (x9_1 - 1)), rs, H', ⟨by have := HK1.out; have := HK2.out; omega⟩, ⟨by (try simp only [hl8_1]); (try simp only [hl8_2]); (with_reducible repeat (first | apply Kd.R_alloc | apply Kd.R_drewN | apply Kd.R_drew)); exact HO_8.out⟩, ⟨bel⟩⟩
 rw [if_neg c11] at H; have c11b0 : decide ((l0.length : Int) ≤ x9_1) = false := decide_eq_false c11
 (try simp only [hl8_1] at c11b0); (try simp only [hl8_2] at c11b0)
 clear c11; have H' := Aside0.mk H; clear H; go_wp2; go_loopg [12] k1 (fun kq v12 w' => ∃ (x12_2 : Int), v12 = .int .i64 x12_2 ∧ Aside0 (codewrightref04_divides.l2 kq x8_1 x12_2 = some r) ∧ Aside0 (kq ≤ k1) ∧ Aside0 (Kd.R (Kd.int .i64) 3 w' w.heap.size (fun _ => True) (.slice Ao10 x8_1.length co10) x8_1) ∧ Aside0 (Below w.heap.size w w'))
 case atStart => exact ⟨(0), rs, H', ⟨Nat.le_refl _⟩, ⟨by (try simp only [hl8_1]); (with_reducible repeat (first | apply Kd.R_alloc | apply Kd.R_drewN | apply Kd.R_drew)); exact HO_8.out⟩, ⟨bel⟩⟩
 clear H'; obtain ⟨x12_2, rfl, HA, HK2, HO_8, HB⟩ := hrel; rcases gk with _ | k2
 ·exact absurd HA.out (by simp [codewrightref04_divides.l2])
 have H := HA.out; clear HA; simp only [codewrightref04_divides.l2] at H
 by_cases c29 : x12_2 < (x8_1.length : Int)
 ·rw [if_pos c29] at H; have c29b0 : decide (x12_2 < (x8_1.length : Int)) = true := decide_eq_true c29
  (try simp only [hl8_1] at c29b0); (try simp only [hl8_2] at c29b0)
  clear c29; replace H := ifd H; obtain ⟨c30b0, H⟩ := H
  by_cases c31 : (rd x8_1 x12_2) = 0
  ·rw [if_pos c31] at H; have c31b0 : ((rd x8_1 x12_2) == 0) = true := beq_iff_eq.mpr c31; have c31b1 : ((rd x8_1 x12_2) != 0) = false := bne_eq_false_iff_eq.mpr c31; clear c31; have H' := Aside0.mk H; clear H; have p120 : 0 ≤ (x12_2 : Int) := oda; have q120 : x12_2 < (x8_1.length : Int) := oda; obtain ⟨ad120, e120, hx120_0⟩ := Kd.at_int (Kd.R_reads' HO_8.out).2.2 x12_2 p120 q120; cases e120; replace p120 := eq_true p120; replace q120 := eq_true q120; go_wp2; go_roundg k2
   case measure => have := HK1.out; have := HK2.out; omega
   case rel => exact ⟨(wrap64 (x12_2 + 1)), rs, H', ⟨by have := HK1.out; have := HK2.out; omega⟩, ⟨by (try simp only [hl8_1]); (with_reducible repeat (first | apply Kd.R_alloc | apply Kd.R_drewN | apply Kd.R_drew)); exact HO_8.out⟩, ⟨bel⟩⟩
  rw [if_neg c31] at H; have c31b0 : ((rd x8_1 x12_2) == 0) = false := beq_eq_false_iff_ne.mpr c31; have c31b1 : ((rd x8_1 x12_2) != 0) = true := bne_iff_ne.mpr c31; obtain rfl := Option.some.inj H; have p120 : 0 ≤ (x12_2 : Int) := oda; have q120 : x12_2 < (x8_1.length : Int) := oda; obtain ⟨ad120, e120, hx120_0⟩ := Kd.at_int (Kd.R_reads' HO_8.out).2.2 x12_2 p120 q120; cases e120; replace p120 := eq_true p120; replace q120 := eq_true q120; go_wp2; go_ret; exact ⟨ren, bel⟩
 rw [if_neg c29] at H; have c29b0 : decide (x12_2 < (x8_1.length : Int)) = false := decide_eq_false c29
 (try simp only [hl8_1] at c29b0); (try simp only [hl8_2] at c29b0)
 clear c29; obtain rfl := Option.some.inj H; go_wp2; go_ret; exact ⟨ren, bel⟩
mutual
def codewrightref04_irreducible.l0 : Nat → List Int → Int → Int → Int → Option (Bool)
 | 0, _, _, _, _ => none
 | k + 1, x0, x1, x5, x6 => if (wrap64 (2 * x6)) ≤ (x0.length : Int) then (codewrightref04_irreducible.l1 k x0 x1 (wrap64 (x5 * x1)) x6 0) else (some true)
def codewrightref04_irreducible.l1 : Nat → List Int → Int → Int → Int → Int → Option (Bool)
 | 0, _, _, _, _, _ => none
 | k + 1, x0, x1, x5, x6, x7 => if x7 < x5 then ((codewrightref04_digits.f k x7 x1 x6).bind fun t121 => ((codewrightref04_divides.f k t121 x0 x1).bind fun t124 => (if t124 = true then (some false) else (codewrightref04_irreducible.l1 k x0 x1 x5 x6 (wrap64 (x7 + 1)))))) else (codewrightref04_irreducible.l0 k x0 x1 x5 (wrap64 (x6 + 1)))
end
def codewrightref04_irreducible.f (k : Nat) (l0 : List Int) (a1 : Int) : Option (Bool) := codewrightref04_irreducible.l0 k l0 a1 1 1
theorem codewrightref04_irreducible.calls (k : Nat) (A0 : Option Addr) (c0 : Nat) (l0 : List Int) (a1 : Int) (r : Bool) (w : World) (hr0 : Kd.C (Kd.int .i64) w A0 l0.length l0) (hc0 : l0.length ≤ c0) (h : codewrightref04_irreducible.f k l0 a1 = some r) :
  Calls Try.prog 103 #[.slice A0 l0.length c0, .int .i64 a1] w fun e w' => e = .returned (.bool r) ∧ Below w.heap.size w w' := by
 have HR0 := Aside0.mk hr0; have HC0 := Aside0.mk hc0; clear hr0 hc0; have HB := Aside0.mk (Below.refl w.heap.size w); have H : (codewrightref04_irreducible.l0 k l0 a1 1 1) = some r := h; clear h; have H' := Aside0.mk H; clear H; go_enter Try.func103, Try.ntmps103; go_wp2; go_loopg [5, 6] k (fun kq v5 v6 w' => ∃ (x5_1 : Int) (x6_1 : Int), v5 = .int .i64 x5_1 ∧ v6 = .int .i64 x6_1 ∧ Aside0 (codewrightref04_irreducible.l0 kq l0 a1 x5_1 x6_1 = some r) ∧ Aside0 (kq ≤ k) ∧ Aside0 (Below w.heap.size w w'))
 case atStart => exact ⟨(1), (1), rs, rs, H', ⟨Nat.le_refl _⟩, ⟨bel⟩⟩
 case round =>
  clear H'; obtain ⟨x5_1, x6_1, rfl, rfl, HA, HK1, HB⟩ := hrel; rcases gk with _ | k1
  ·exact absurd HA.out (by simp [codewrightref04_irreducible.l0])
  have H := HA.out; clear HA; simp only [codewrightref04_irreducible.l0] at H
  by_cases c3 : (wrap64 (2 * x6_1)) ≤ (l0.length : Int)
  ·rw [if_pos c3] at H; have c3b0 : decide ((wrap64 (2 * x6_1)) ≤ (l0.length : Int)) = true := decide_eq_true c3; clear c3; have H' := Aside0.mk H; clear H; go_wp2; go_loopg [7] k1 (fun kq v7 w' => ∃ (x7_2 : Int), v7 = .int .i64 x7_2 ∧ Aside0 (codewrightref04_irreducible.l1 kq l0 a1 (wrap64 (x5_1 * a1)) x6_1 x7_2 = some r) ∧ Aside0 (kq ≤ k1) ∧ Aside0 (Below w.heap.size w w'))
   case atStart => exact ⟨(0), rs, H', ⟨Nat.le_refl _⟩, ⟨bel⟩⟩
   case round =>
    clear H'; obtain ⟨x7_2, rfl, HA, HK2, HB⟩ := hrel; rcases gk with _ | k2
    ·exact absurd HA.out (by simp [codewrightref04_irreducible.l1])
    have H := HA.out; clear HA; simp only [codewrightref04_irreducible.l1] at H
    by_cases c4 : x7_2 < (wrap64 (x5_1 * a1))
    ·rw [if_pos c4] at H; have c4b0 : decide (x7_2 < (wrap64 (x5_1 * a1))) = true := decide_eq_true c4; clear c4; replace H := bz H; obtain ⟨t121, A5, H⟩ := H; replace H := bz H; obtain ⟨t124, A6, H⟩ := H
     by_cases c7 : t124 = true
     ·subst c7; have H1 : (some false) = some r := by rw [if_pos rfl] at H; exact H
      clear H; have H := H1; clear H1; obtain rfl := Option.some.inj H; go_wp2_with (first | ((with_reducible refine gate_callee (f := 115) rfl ?_); refine gl (some 26) Try.func115 #[.int .i64 x7_2, .int .i64 a1, .int .i64 x6_1] ?_; (with_reducible refine (codewrightref04_digits.calls k2 x7_2 a1 x6_1 t121 _ A5.out).mono ?_); rintro e w8 ⟨v122, rfl, ho0, hb⟩; refine ⟨_, rfl, ?_⟩; have HO123 := Aside0.mk (Kd.R_lower ho0 bsz); replace HB := bst hb; obtain ⟨Ao9, co9, eo9⟩ := Kd.R_slice HO123.out; subst eo9) | ((with_reducible refine gate_callee (f := 125) rfl ?_); refine gl (some 29) Try.func125 #[.slice Ao9 t121.length co9, .slice A0 l0.length c0, .int .i64 a1] ?_; (with_reducible refine (codewrightref04_divides.calls k2 _ _ t121 _ _ l0 a1 true _ ?side1 ?side2 ?side3 ?side4 A6.out).mono ?_); (case side1 => repeat (first | exact (Kd.R_reads' HO123.out).2.2 | (with_reducible refine Kd.C_alloc ?_ _) | (with_reducible refine Kd.C_drewN ?_ _) | (with_reducible refine Kd.C_drew ?_))); (case side2 => exact (Kd.R_reads' HO123.out).2.1); (case side3 => exact cb HR0); (case side4 => exact HC0.out); rintro e w10 ⟨rfl, hb⟩; refine ⟨_, rfl, ?_⟩; replace HO123 := Aside0.mk (Kd.R_below (ra HO123) hb); replace HB := bst hb))
      go_ret; exact ⟨ren, bel⟩
     ·replace c7 := Bool.eq_false_iff.mpr c7; subst c7; have H1 : (codewrightref04_irreducible.l1 k2 l0 a1 (wrap64 (x5_1 * a1)) x6_1 (wrap64 (x7_2 + 1))) = some r := by rw [if_neg (show ¬ (false = true) by decide)] at H; exact H
      clear H; have H := H1; clear H1; have H' := Aside0.mk H; clear H; go_wp2_with (first | ((with_reducible refine gate_callee (f := 115) rfl ?_); refine gl (some 26) Try.func115 #[.int .i64 x7_2, .int .i64 a1, .int .i64 x6_1] ?_; (with_reducible refine (codewrightref04_digits.calls k2 x7_2 a1 x6_1 t121 _ A5.out).mono ?_); rintro e w11 ⟨v122, rfl, ho0, hb⟩; refine ⟨_, rfl, ?_⟩; have HO123 := Aside0.mk (Kd.R_lower ho0 bsz); replace HB := bst hb; obtain ⟨Ao12, co12, eo12⟩ := Kd.R_slice HO123.out; subst eo12) | ((with_reducible refine gate_callee (f := 125) rfl ?_); refine gl (some 29) Try.func125 #[.slice Ao12 t121.length co12, .slice A0 l0.length c0, .int .i64 a1] ?_; (with_reducible refine (codewrightref04_divides.calls k2 _ _ t121 _ _ l0 a1 false _ ?side1 ?side2 ?side3 ?side4 A6.out).mono ?_); (case side1 => repeat (first | exact (Kd.R_reads' HO123.out).2.2 | (with_reducible refine Kd.C_alloc ?_ _) | (with_reducible refine Kd.C_drewN ?_ _) | (with_reducible refine Kd.C_drew ?_))); (case side2 => exact (Kd.R_reads' HO123.out).2.1); (case side3 => exact cb HR0); (case side4 => exact HC0.out); rintro e w13 ⟨rfl, hb⟩; refine ⟨_, rfl, ?_⟩; replace HO123 := Aside0.mk (Kd.R_below (ra HO123) hb); replace HB := bst hb))
      go_roundg k2
      case measure => have := HK1.out; have := HK2.out; omega
      case rel => exact ⟨(wrap64 (x7_2 + 1)), rs, H', ⟨by have := HK1.out; have := HK2.out; omega⟩, ⟨bel⟩⟩
    ·rw [if_neg c4] at H; have c4b0 : decide (x7_2 < (wrap64 (x5_1 * a1))) = false := decide_eq_false c4; clear c4; have H' := Aside0.mk H; clear H; go_wp2; go_roundg k2
     case measure => have := HK1.out; have := HK2.out; omega
     case rel => exact ⟨((wrap64 (x5_1 * a1))), (wrap64 (x6_1 + 1)), rs, rs, H', ⟨by have := HK1.out; have := HK2.out; omega⟩, ⟨bel⟩⟩
  ·rw [if_neg c3] at H; have c3b0 : decide ((wrap64 (2 * x6_1)) ≤ (l0.length : Int)) = false := decide_eq_false c3; clear c3; obtain rfl := Option.some.inj H; go_wp2; go_ret; exact ⟨ren, bel⟩
mutual
def codewrightref04_Check.j0 : Nat → Bool → Int → Int → List Int → Option (Int)
 | 0, _, _, _, _ => none
 | k + 1, x12, x126000, x126001, x126002 => if x12 = true then (some 1) else (if x126001 = 1 then (if (x126002.length : Int) = 0 then (some 0) else (some 1)) else (if (x126002.length : Int) = x126001 then (codewrightref04_Check.l0 k 0 x126000 x126001 x126002) else (some 1)))
def codewrightref04_Check.l0 : Nat → Int → Int → Int → List Int → Option (Int)
 | 0, _, _, _, _ => none
 | k + 1, x3, x126000, x126001, x126002 => if x3 < x126001 then (if 0 ≤ x3 then (if x3 < (x126002.length : Int) then (if (rd x126002 x3) < 0 then (some 1) else (if (rd x126002 x3) ≥ x126000 then (some 1) else (codewrightref04_Check.l0 k (wrap64 (x3 + 1)) x126000 x126001 x126002))) else (none)) else (none)) else ((codewrightref04_irreducible.f k x126002 x126000).bind fun t130 => (if t130 = true then (some 0) else (some 1)))
end
def codewrightref04_Check.f (k : Nat) (a0_0 : Int) (a0_1 : Int) (l0_2 : List Int) : Option (Int) := (codewrightref04_Order.f k a0_0 a0_1 l0_2).bind fun t126 => (if t126 = 0 then (codewrightref04_Check.j0 k true a0_0 a0_1 l0_2) else ((codewrightref04_prime.f k a0_0).bind fun t127 => (codewrightref04_Check.j0 k (!t127) a0_0 a0_1 l0_2)))
theorem codewrightref04_Check.calls (k : Nat) (a0_0 : Int) (a0_1 : Int) (A0_2 : Option Addr) (c0_2 : Nat) (l0_2 : List Int) (r : Int) (w : World) (hr0_2 : Kd.C (Kd.int .i64) w A0_2 l0_2.length l0_2) (hc0_2 : l0_2.length ≤ c0_2) (h : codewrightref04_Check.f k a0_0 a0_1 l0_2 = some r) :
  Calls Try.prog 67 #[.agg #[.int .i64 a0_0, .int .i64 a0_1, .slice A0_2 l0_2.length c0_2]] w fun e w' => e = .returned (.int .i64 r) ∧ Below w.heap.size w w' := by
 have hu33 := Try.underlying33; have HR0_2 := Aside0.mk hr0_2; have HC0_2 := Aside0.mk hc0_2; clear hr0_2 hc0_2; have HB := Aside0.mk (Below.refl w.heap.size w); have H : ((codewrightref04_Order.f k a0_0 a0_1 l0_2).bind fun t126 => (if t126 = 0 then (codewrightref04_Check.j0 k true a0_0 a0_1 l0_2) else ((codewrightref04_prime.f k a0_0).bind fun t127 => (codewrightref04_Check.j0 k (!t127) a0_0 a0_1 l0_2)))) = some r := h; clear h; have HC2 := Aside0.mk H; clear H; go_enter Try.func67, Try.ntmps67; go_upto_region 1 with (first | ((with_reducible refine gate_dst (N := 1) rfl ?_); refine bx (cs := #[.int .i64 a0_0, .int .i64 a0_1, .slice A0_2 l0_2.length c0_2]) (t := 33) ?_; intro gb125 hg w3 hbox hb; have BK125 := Aside0.mk (hbox); have GW125 := Aside0.mk ((by rw [hg]; exact bsz : w.heap.size ≤ gb125)); have GE125 := Aside0.mk ((by rw [hg]; exact bsz : w.heap.size ≤ gb125)); replace HB := bst hb; clear hb hbox hg))
 repeat (go_quiet (first | ((with_reducible refine gate_dst (N := 1) rfl ?_); refine bx (cs := #[.int .i64 a0_0, .int .i64 a0_1, .slice A0_2 l0_2.length c0_2]) (t := 33) ?_; intro gb125 hg w3 hbox hb; have BK125 := Aside0.mk (hbox); have GW125 := Aside0.mk ((by rw [hg]; exact bsz : w.heap.size ≤ gb125)); have GE125 := Aside0.mk ((by rw [hg]; exact bsz : w.heap.size ≤ gb125)); replace HB := bst hb; clear hb hbox hg)); go_upto_region 1 with (first | ((with_reducible refine gate_dst (N := 1) rfl ?_); refine bx (cs := #[.int .i64 a0_0, .int .i64 a0_1, .slice A0_2 l0_2.length c0_2]) (t := 33) ?_; intro gb125 hg w3 hbox hb; have BK125 := Aside0.mk (hbox); have GW125 := Aside0.mk ((by rw [hg]; exact bsz : w.heap.size ≤ gb125)); have GE125 := Aside0.mk ((by rw [hg]; exact bsz : w.heap.size ≤ gb125)); replace HB := bst hb; clear hb hbox hg)))
 (try simp only [Act.put, List.setIfInBounds_toArray, List.set_cons_zero, List.set_cons_succ])
 go_cut [12] (fun v12 wc => ∃ (kq : Nat) (x12_1 : Bool), v12 = .bool x12_1 ∧ Aside0 (codewrightref04_Check.j0 kq x12_1 a0_0 a0_1 l0_2 = some r) ∧ Aside0 (kq ≤ k) ∧ Aside0 (wc.heap[gb125]? = some (.cells #[.int .i64 a0_0, .int .i64 a0_1, (.slice A0_2 l0_2.length c0_2)] 33 (0, 0))) ∧ Aside0 (Below w.heap.size w wc))
 case first =>
  have H := HC2.out; clear HC2; replace H := bz H; obtain ⟨t126, A4, H⟩ := H
  by_cases c5 : t126 = 0
  ·rw [if_pos c5] at H; have c5b0 : (t126 == 0) = true := beq_iff_eq.mpr c5; have c5b1 : (t126 != 0) = false := bne_eq_false_iff_eq.mpr c5; clear c5; (first | rw [c5b0] | (simp only [i64_w, i32_w]; rw [c5b0]) | skip)
   have H' := Aside0.mk H; clear H; obtain ⟨hcz6_0, hcz6_1, hcz6_2, hfz6_0, hfz6_1, hfz6_2⟩ := b3 BK125; go_wp2_with (first | (go_at_call 91; (with_reducible refine (codewrightref04_Order.calls k a0_0 a0_1 _ _ l0_2 t126 _ ?side1 ?side2 A4.out).mono ?_); (case side1 => exact cb HR0_2); (case side2 => exact HC0_2.out); rintro e w7 ⟨rfl, hb⟩; replace BK125 := Aside0.mk (blk_below (g := gb125) (o := .cells #[.int .i64 a0_0, .int .i64 a0_1, .slice A0_2 l0_2.length c0_2] 33 (0, 0)) (ba BK125) hb); replace HB := bst hb))
   repeat (go_quiet (first | (go_at_call 91; (with_reducible refine (codewrightref04_Order.calls k a0_0 a0_1 _ _ l0_2 t126 _ ?side1 ?side2 A4.out).mono ?_); (case side1 => exact cb HR0_2); (case side2 => exact HC0_2.out); rintro e w7 ⟨rfl, hb⟩; replace BK125 := Aside0.mk (blk_below (g := gb125) (o := .cells #[.int .i64 a0_0, .int .i64 a0_1, .slice A0_2 l0_2.length c0_2] 33 (0, 0)) (ba BK125) hb); replace HB := bst hb)); try go_wp2_with (first | (go_at_call 91; (with_reducible refine (codewrightref04_Order.calls k a0_0 a0_1 _ _ l0_2 t126 _ ?side1 ?side2 A4.out).mono ?_); (case side1 => exact cb HR0_2); (case side2 => exact HC0_2.out); rintro e w7 ⟨rfl, hb⟩; replace BK125 := Aside0.mk (blk_below (g := gb125) (o := .cells #[.int .i64 a0_0, .int .i64 a0_1, .slice A0_2 l0_2.length c0_2] 33 (0, 0)) (ba BK125) hb); replace HB := bst hb)))
   go_meet
   case rel => exact ⟨_, (true), rs, H', ⟨by first | omega | exact Nat.le_refl _⟩, ⟨ba BK125⟩, ⟨bel⟩⟩
  ·rw [if_neg c5] at H; have c5b0 : (t126 == 0) = false := beq_eq_false_iff_ne.mpr c5; have c5b1 : (t126 != 0) = true := bne_iff_ne.mpr c5; (first | rw [c5b0] | (simp only [i64_w, i32_w]; rw [c5b0]) | skip)
   replace H := bz H; obtain ⟨t127, A8, H⟩ := H; have H' := Aside0.mk H; clear H; obtain ⟨hcz9_0, hcz9_1, hcz9_2, hfz9_0, hfz9_1, hfz9_2⟩ := b3 BK125; go_wp2_with (first | (go_at_call 91; (with_reducible refine (codewrightref04_Order.calls k a0_0 a0_1 _ _ l0_2 t126 _ ?side1 ?side2 A4.out).mono ?_); (case side1 => exact cb HR0_2); (case side2 => exact HC0_2.out); rintro e w10 ⟨rfl, hb⟩; replace BK125 := Aside0.mk (blk_below (g := gb125) (o := .cells #[.int .i64 a0_0, .int .i64 a0_1, .slice A0_2 l0_2.length c0_2] 33 (0, 0)) (ba BK125) hb); replace HB := bst hb; obtain ⟨hcz11_0, hcz11_1, hcz11_2, hfz11_0, hfz11_1, hfz11_2⟩ := b3 BK125) | (go_at_call 102; (with_reducible refine (codewrightref04_prime.calls k a0_0 t127 _ A8.out).mono ?_); rintro e w' ⟨rfl, ⟨nd, rfl⟩⟩; (try first | exact ⟨rfl, _, World.drewN_drewN _ _ _⟩ | exact ⟨rfl, _, Eq.trans (World.drewN_drewN _ _ _) (congrArg (World.drewN _) (Nat.add_assoc _ _ _))⟩)))
   repeat (go_quiet (first | (go_at_call 91; (with_reducible refine (codewrightref04_Order.calls k a0_0 a0_1 _ _ l0_2 t126 _ ?side1 ?side2 A4.out).mono ?_); (case side1 => exact cb HR0_2); (case side2 => exact HC0_2.out); rintro e w10 ⟨rfl, hb⟩; replace BK125 := Aside0.mk (blk_below (g := gb125) (o := .cells #[.int .i64 a0_0, .int .i64 a0_1, .slice A0_2 l0_2.length c0_2] 33 (0, 0)) (ba BK125) hb); replace HB := bst hb; obtain ⟨hcz11_0, hcz11_1, hcz11_2, hfz11_0, hfz11_1, hfz11_2⟩ := b3 BK125) | (go_at_call 102; (with_reducible refine (codewrightref04_prime.calls k a0_0 t127 _ A8.out).mono ?_); rintro e w' ⟨rfl, ⟨nd, rfl⟩⟩; (try first | exact ⟨rfl, _, World.drewN_drewN _ _ _⟩ | exact ⟨rfl, _, Eq.trans (World.drewN_drewN _ _ _) (congrArg (World.drewN _) (Nat.add_assoc _ _ _))⟩))); try go_wp2_with (first | (go_at_call 91; (with_reducible refine (codewrightref04_Order.calls k a0_0 a0_1 _ _ l0_2 t126 _ ?side1 ?side2 A4.out).mono ?_); (case side1 => exact cb HR0_2); (case side2 => exact HC0_2.out); rintro e w10 ⟨rfl, hb⟩; replace BK125 := Aside0.mk (blk_below (g := gb125) (o := .cells #[.int .i64 a0_0, .int .i64 a0_1, .slice A0_2 l0_2.length c0_2] 33 (0, 0)) (ba BK125) hb); replace HB := bst hb; obtain ⟨hcz11_0, hcz11_1, hcz11_2, hfz11_0, hfz11_1, hfz11_2⟩ := b3 BK125) | (go_at_call 102; (with_reducible refine (codewrightref04_prime.calls k a0_0 t127 _ A8.out).mono ?_); rintro e w' ⟨rfl, ⟨nd, rfl⟩⟩; (try first | exact ⟨rfl, _, World.drewN_drewN _ _ _⟩ | exact ⟨rfl, _, Eq.trans (World.drewN_drewN _ _ _) (congrArg (World.drewN _) (Nat.add_assoc _ _ _))⟩))))
   go_meet
   case rel => exact ⟨_, (!t127), rs, H', ⟨by first | omega | exact Nat.le_refl _⟩, ⟨ba BK125⟩, ⟨bel⟩⟩
 case rest =>
  clear HC2; obtain ⟨kq, x12_1, rfl, HA, HJ1, BK125, HB⟩ := hcut; rcases kq with _ | kj1
  ·exact absurd HA.out (by simp [codewrightref04_Check.j0])
  have H := HA.out; clear HA; simp only [codewrightref04_Check.j0] at H
  by_cases c12 : x12_1 = true
  ·subst c12; have H1 : (some 1) = some r := by rw [if_pos rfl] at H; exact H
   clear H; have H := H1; clear H1; obtain rfl := Option.some.inj H; go_wp2; repeat (go_quiet (fail); try go_wp2)
   go_ret; exact ⟨ren, bel⟩
  ·replace c12 := Bool.eq_false_iff.mpr c12; subst c12; have H1 : (if a0_1 = 1 then (if (l0_2.length : Int) = 0 then (some 0) else (some 1)) else (if (l0_2.length : Int) = a0_1 then (codewrightref04_Check.l0 kj1 0 a0_0 a0_1 l0_2) else (some 1))) = some r := by rw [if_neg (show ¬ (false = true) by decide)] at H; exact H
   clear H; have H := H1; clear H1
   by_cases c13 : a0_1 = 1
   ·rw [if_pos c13] at H; have c13b0 : (a0_1 == 1) = true := beq_iff_eq.mpr c13; have c13b1 : (a0_1 != 1) = false := bne_eq_false_iff_eq.mpr c13; clear c13
    by_cases c14 : (l0_2.length : Int) = 0
    ·rw [if_pos c14] at H; have c14b0 : ((l0_2.length : Int) == 0) = true := beq_iff_eq.mpr c14; have c14b1 : ((l0_2.length : Int) != 0) = false := bne_eq_false_iff_eq.mpr c14; clear c14; obtain rfl := Option.some.inj H; obtain ⟨hcz15_0, hcz15_1, hcz15_2, hfz15_0, hfz15_1, hfz15_2⟩ := b3 BK125; go_wp2; repeat (go_quiet (fail); try go_wp2)
     go_ret; exact ⟨ren, bel⟩
    ·rw [if_neg c14] at H; have c14b0 : ((l0_2.length : Int) == 0) = false := beq_eq_false_iff_ne.mpr c14; have c14b1 : ((l0_2.length : Int) != 0) = true := bne_iff_ne.mpr c14; have c14b2 : ¬ (l0_2 = []) := fun h_ => c14 (by rw [h_]; rfl)
     obtain rfl := Option.some.inj H; obtain ⟨hcz16_0, hcz16_1, hcz16_2, hfz16_0, hfz16_1, hfz16_2⟩ := b3 BK125; go_wp2; repeat (go_quiet (fail); try go_wp2)
     go_ret; exact ⟨ren, bel⟩
   ·rw [if_neg c13] at H; have c13b0 : (a0_1 == 1) = false := beq_eq_false_iff_ne.mpr c13; have c13b1 : (a0_1 != 1) = true := bne_iff_ne.mpr c13
    by_cases c17 : (l0_2.length : Int) = a0_1
    ·rw [if_pos c17] at H; have c17b0 : ((l0_2.length : Int) == a0_1) = true := beq_iff_eq.mpr c17; have c17b1 : ((l0_2.length : Int) != a0_1) = false := bne_eq_false_iff_eq.mpr c17; clear c17; have H' := Aside0.mk H; clear H; obtain ⟨hcz18_0, hcz18_1, hcz18_2, hfz18_0, hfz18_1, hfz18_2⟩ := b3 BK125; go_wp2; repeat (go_quiet (fail); try go_wp2)
     go_loopg [3] kj1 (fun kq v3 w' => ∃ (x3_2 : Int), v3 = .int .i64 x3_2 ∧ Aside0 (codewrightref04_Check.l0 kq x3_2 a0_0 a0_1 l0_2 = some r) ∧ Aside0 (kq ≤ kj1) ∧ Aside0 (w'.heap[gb125]? = some (.cells #[.int .i64 a0_0, .int .i64 a0_1, (.slice A0_2 l0_2.length c0_2)] 33 (0, 0))) ∧ Aside0 (Below w.heap.size w w'))
     case atStart => exact ⟨(0), rs, H', ⟨Nat.le_refl _⟩, ⟨ba BK125⟩, ⟨bel⟩⟩
     case round =>
      clear H'; obtain ⟨x3_2, rfl, HA, HK2, BK125, HB⟩ := hrel; rcases gk with _ | k2
      ·exact absurd HA.out (by simp [codewrightref04_Check.l0])
      have H := HA.out; clear HA; simp only [codewrightref04_Check.l0] at H
      by_cases c19 : x3_2 < a0_1
      ·rw [if_pos c19] at H; have c19b0 : decide (x3_2 < a0_1) = true := decide_eq_true c19; clear c19; replace H := ifd H; obtain ⟨c20b0, H⟩ := H; replace H := ifd H; obtain ⟨c21b0, H⟩ := H
       by_cases c22 : (rd l0_2 x3_2) < 0
       ·rw [if_pos c22] at H; have c22b0 : decide ((rd l0_2 x3_2) < 0) = true := decide_eq_true c22; clear c22; obtain rfl := Option.some.inj H; obtain ⟨hcz23_0, hcz23_1, hcz23_2, hfz23_0, hfz23_1, hfz23_2⟩ := b3 BK125; have p128 : 0 ≤ (x3_2 : Int) := oda; have q128 : x3_2 < (l0_2.length : Int) := oda; obtain ⟨ad128, e128, hx128_0⟩ := Kd.at_int HR0_2.out x3_2 p128 q128; cases e128
        (try replace hx128_0 := hbc hx128_0)
        replace p128 := eq_true p128; replace q128 := eq_true q128; go_wp2; repeat (go_quiet (fail); try go_wp2)
        go_ret; exact ⟨ren, bel⟩
       ·rw [if_neg c22] at H; have c22b0 : decide ((rd l0_2 x3_2) < 0) = false := decide_eq_false c22; clear c22
        by_cases c24 : (rd l0_2 x3_2) ≥ a0_0
        ·rw [if_pos c24] at H; have c24b0 : decide (a0_0 ≤ (rd l0_2 x3_2)) = true := decide_eq_true c24; clear c24; obtain rfl := Option.some.inj H; obtain ⟨hcz25_0, hcz25_1, hcz25_2, hfz25_0, hfz25_1, hfz25_2⟩ := b3 BK125; have p128 : 0 ≤ (x3_2 : Int) := oda; have q128 : x3_2 < (l0_2.length : Int) := oda; obtain ⟨ad128, e128, hx128_0⟩ := Kd.at_int HR0_2.out x3_2 p128 q128; cases e128
         (try replace hx128_0 := hbc hx128_0)
         replace p128 := eq_true p128; replace q128 := eq_true q128; have p129 : 0 ≤ (x3_2 : Int) := oda; have q129 : x3_2 < (l0_2.length : Int) := oda; obtain ⟨ad129, e129, hx129_0⟩ := Kd.at_int HR0_2.out x3_2 p129 q129; obtain rfl : ad128 = ad129 := (by injection e129)
         (try replace hx129_0 := hbc hx129_0)
         replace p129 := eq_true p129; replace q129 := eq_true q129; go_wp2; repeat (go_quiet (fail); try go_wp2)
         go_ret; exact ⟨ren, bel⟩
        ·rw [if_neg c24] at H; have c24b0 : decide (a0_0 ≤ (rd l0_2 x3_2)) = false := decide_eq_false c24; clear c24; have H' := Aside0.mk H; clear H; obtain ⟨hcz26_0, hcz26_1, hcz26_2, hfz26_0, hfz26_1, hfz26_2⟩ := b3 BK125; have p128 : 0 ≤ (x3_2 : Int) := oda; have q128 : x3_2 < (l0_2.length : Int) := oda; obtain ⟨ad128, e128, hx128_0⟩ := Kd.at_int HR0_2.out x3_2 p128 q128; cases e128
         (try replace hx128_0 := hbc hx128_0)
         replace p128 := eq_true p128; replace q128 := eq_true q128; have p129 : 0 ≤ (x3_2 : Int) := oda; have q129 : x3_2 < (l0_2.length : Int) := oda; obtain ⟨ad129, e129, hx129_0⟩ := Kd.at_int HR0_2.out x3_2 p129 q129; obtain rfl : ad128 = ad129 := (by injection e129)
         (try replace hx129_0 := hbc hx129_0)
         replace p129 := eq_true p129; replace q129 := eq_true q129; go_wp2; repeat (go_quiet (fail); try go_wp2)
         go_roundg k2
         case measure => have := HJ1.out; have := HK2.out; omega
         case rel => exact ⟨(wrap64 (x3_2 + 1)), rs, H', ⟨by have := HJ1.out; have := HK2.out; omega⟩, ⟨ba BK125⟩, ⟨bel⟩⟩
      ·rw [if_neg c19] at H; have c19b0 : decide (x3_2 < a0_1) = false := decide_eq_false c19; clear c19; replace H := bz H; obtain ⟨t130, A27, H⟩ := H
       by_cases c28 : t130 = true
       ·subst c28; have H1 : (some 0) = some r := by rw [if_pos rfl] at H; exact H
        clear H; have H := H1; clear H1; obtain rfl := Option.some.inj H; obtain ⟨hcz29_0, hcz29_1, hcz29_2, hfz29_0, hfz29_1, hfz29_2⟩ := b3 BK125; go_wp2_with (first | (go_at_call 103; (with_reducible refine (codewrightref04_irreducible.calls k2 _ _ l0_2 a0_0 true _ ?side1 ?side2 A27.out).mono ?_); (case side1 => exact cb HR0_2); (case side2 => exact HC0_2.out); rintro e w30 ⟨rfl, hb⟩; replace BK125 := Aside0.mk (blk_below (g := gb125) (o := .cells #[.int .i64 a0_0, .int .i64 a0_1, .slice A0_2 l0_2.length c0_2] 33 (0, 0)) (ba BK125) hb); replace HB := bst hb))
        repeat (go_quiet (first | (go_at_call 103; (with_reducible refine (codewrightref04_irreducible.calls k2 _ _ l0_2 a0_0 true _ ?side1 ?side2 A27.out).mono ?_); (case side1 => exact cb HR0_2); (case side2 => exact HC0_2.out); rintro e w30 ⟨rfl, hb⟩; replace BK125 := Aside0.mk (blk_below (g := gb125) (o := .cells #[.int .i64 a0_0, .int .i64 a0_1, .slice A0_2 l0_2.length c0_2] 33 (0, 0)) (ba BK125) hb); replace HB := bst hb)); try go_wp2_with (first | (go_at_call 103; (with_reducible refine (codewrightref04_irreducible.calls k2 _ _ l0_2 a0_0 true _ ?side1 ?side2 A27.out).mono ?_); (case side1 => exact cb HR0_2); (case side2 => exact HC0_2.out); rintro e w30 ⟨rfl, hb⟩; replace BK125 := Aside0.mk (blk_below (g := gb125) (o := .cells #[.int .i64 a0_0, .int .i64 a0_1, .slice A0_2 l0_2.length c0_2] 33 (0, 0)) (ba BK125) hb); replace HB := bst hb)))
        go_ret; exact ⟨ren, bel⟩
       ·replace c28 := Bool.eq_false_iff.mpr c28; subst c28; have H1 : (some 1) = some r := by rw [if_neg (show ¬ (false = true) by decide)] at H; exact H
        clear H; have H := H1; clear H1; obtain rfl := Option.some.inj H; obtain ⟨hcz31_0, hcz31_1, hcz31_2, hfz31_0, hfz31_1, hfz31_2⟩ := b3 BK125; go_wp2_with (first | (go_at_call 103; (with_reducible refine (codewrightref04_irreducible.calls k2 _ _ l0_2 a0_0 false _ ?side1 ?side2 A27.out).mono ?_); (case side1 => exact cb HR0_2); (case side2 => exact HC0_2.out); rintro e w32 ⟨rfl, hb⟩; replace BK125 := Aside0.mk (blk_below (g := gb125) (o := .cells #[.int .i64 a0_0, .int .i64 a0_1, .slice A0_2 l0_2.length c0_2] 33 (0, 0)) (ba BK125) hb); replace HB := bst hb))
        repeat (go_quiet (first | (go_at_call 103; (with_reducible refine (codewrightref04_irreducible.calls k2 _ _ l0_2 a0_0 false _ ?side1 ?side2 A27.out).mono ?_); (case side1 => exact cb HR0_2); (case side2 => exact HC0_2.out); rintro e w32 ⟨rfl, hb⟩; replace BK125 := Aside0.mk (blk_below (g := gb125) (o := .cells #[.int .i64 a0_0, .int .i64 a0_1, .slice A0_2 l0_2.length c0_2] 33 (0, 0)) (ba BK125) hb); replace HB := bst hb)); try go_wp2_with (first | (go_at_call 103; (with_reducible refine (codewrightref04_irreducible.calls k2 _ _ l0_2 a0_0 false _ ?side1 ?side2 A27.out).mono ?_); (case side1 => exact cb HR0_2); (case side2 => exact HC0_2.out); rintro e w32 ⟨rfl, hb⟩; replace BK125 := Aside0.mk (blk_below (g := gb125) (o := .cells #[.int .i64 a0_0, .int .i64 a0_1, .slice A0_2 l0_2.length c0_2] 33 (0, 0)) (ba BK125) hb); replace HB := bst hb)))
        go_ret; exact ⟨ren, bel⟩
    ·rw [if_neg c17] at H; have c17b0 : ((l0_2.length : Int) == a0_1) = false := beq_eq_false_iff_ne.mpr c17; have c17b1 : ((l0_2.length : Int) != a0_1) = true := bne_iff_ne.mpr c17; obtain rfl := Option.some.inj H; obtain ⟨hcz33_0, hcz33_1, hcz33_2, hfz33_0, hfz33_1, hfz33_2⟩ := b3 BK125; go_wp2; repeat (go_quiet (fail); try go_wp2)
     go_ret; exact ⟨ren, bel⟩
theorem NewPost.isBad {w w' : World} {P M : Int} {Mod : List Int} {r : Int × List Int × List Int} {e : Ending} (h : NewPost w P M Mod r e w') (hr : r.2.1 = []) : e = .returned (.tuple #[.pointer none, .int .i64 1]) ∧ Below w.heap.size w w' := by
 obtain ⟨h | h, hb⟩ := h
 ·exact ⟨h.2, hb⟩
 exact absurd hr h.1
theorem NewPost.isGood {w w' : World} {P M : Int} {Mod : List Int} {r : Int × List Int × List Int} {e : Ending} (h : NewPost w P M Mod r e w') (hr : ¬ r.2.1 = []) : ∃ g, w.heap.size ≤ g ∧ e = .returned (.tuple #[.pointer (some ⟨g, 0, none⟩), .int .i64 0]) ∧ (GFd.mk g P M Mod r.1 r.2.1 r.2.2).At0 w' ∧ Below w.heap.size w w' := by
 obtain ⟨h | h, hb⟩ := h
 ·exact absurd h.1 hr
 obtain ⟨_, g, h1, h2, h3⟩ := h; exact ⟨g, h1, h2, h3, hb⟩
def codewrightlaw40_made.f (k : Nat) (a0_0 : Int) (a0_1 : Int) (l0_2 : List Int) : Option (Option (Int × List Int × List Int)) := (codewrightref04_Check.f k a0_0 a0_1 l0_2).bind fun t1 => if t1 = 0 then ((field_New.f k a0_0 a0_1 l0_2).bind fun n => if n.2.1 = [] then some none else some (some n)) else some none
def MadePost (w : World) (P M : Int) (Mod : List Int) (r : Option (Int × List Int × List Int)) (e : Ending) (w' : World) : Prop :=
 ((r = none ∧ e = .returned (.pointer none)) ∨ (∃ q exp log g, r = some (q, exp, log) ∧ w.heap.size ≤ g ∧ e = .returned (.pointer (some ⟨g, 0, none⟩)) ∧ GFd.At w' (GFd.mk g P M Mod q exp log))) ∧ Below w.heap.size w w'
set_option maxHeartbeats 4000000 in
set_option maxRecDepth 100000 in
theorem codewrightlaw40_made.calls (k : Nat) (a0_0 : Int) (a0_1 : Int) (A0_2 : Option Addr) (c0_2 : Nat) (l0_2 : List Int) (r : Option (Int × List Int × List Int)) (w : World) (hr0_2 : Kd.C (Kd.int .i64) w A0_2 l0_2.length l0_2) (hc0_2 : l0_2.length ≤ c0_2) (h : codewrightlaw40_made.f k a0_0 a0_1 l0_2 = some r) :
  Calls Try.prog 24 #[.agg #[.int .i64 a0_0, .int .i64 a0_1, .slice A0_2 l0_2.length c0_2]] w (MadePost w a0_0 a0_1 l0_2 r) := by
 have hu33 := Try.underlying33; have HR0_2 := Aside0.mk hr0_2; have HC0_2 := Aside0.mk hc0_2; clear hr0_2 hc0_2; have HB := Aside0.mk (Below.refl w.heap.size w); unfold codewrightlaw40_made.f at h; obtain ⟨t1, A1, h⟩ := Option.bind_eq_some_iff.mp h; replace A1 := Aside0.mk A1
 by_cases c1 : t1 = 0
 ·subst c1; rw [if_pos rfl] at h; obtain ⟨n, A2, h⟩ := Option.bind_eq_some_iff.mp h; replace A2 := Aside0.mk A2
  by_cases c2 : n.2.1 = []
  ·rw [if_pos c2] at h; obtain rfl := Option.some.inj h; go_enter Try.func24, Try.ntmps24; go_wp2_with (first | ((with_reducible refine gate_dst (N := 1) rfl ?_); refine bx (cs := #[.int .i64 a0_0, .int .i64 a0_1, .slice A0_2 l0_2.length c0_2]) (t := 33) ?_; intro gb160 hg w7 hbox hb; have n0_ := bst hb; have BK160 := Aside0.mk hbox; have GW160 := Aside0.mk ((by rw [hg]; exact bsz : w.heap.size ≤ gb160)); clear HB; have HB := n0_; clear n0_; clear hb hbox hg; obtain ⟨hcz8_0, hcz8_1, hcz8_2, hfz8_0, hfz8_1, hfz8_2⟩ := b3 BK160) | ((with_reducible refine gate_callee (f := 67) rfl ?_); refine gl (some 6) Try.func67 #[.agg #[.int .i64 a0_0, .int .i64 a0_1, .slice A0_2 l0_2.length c0_2]] ?_; (with_reducible refine (codewrightref04_Check.calls k a0_0 a0_1 _ _ l0_2 0 _ ?side1 ?side2 A1.out).mono ?_); (case side1 => repeat (first | exact (Kd.C_below HR0_2.out bel) | (with_reducible refine Kd.C_alloc ?_ _) | (with_reducible refine Kd.C_drewN ?_ _) | (with_reducible refine Kd.C_drew ?_))); (case side2 => exact HC0_2.out); rintro e w9 ⟨rfl, hb⟩; refine ⟨_, rfl, ?_⟩; replace BK160 := Aside0.mk (blk_below (g := gb160) (o := .cells #[.int .i64 a0_0, .int .i64 a0_1, .slice A0_2 l0_2.length c0_2] 33 (0, 0)) (ba BK160) hb); replace HB := bst hb; obtain ⟨hcz10_0, hcz10_1, hcz10_2, hfz10_0, hfz10_1, hfz10_2⟩ := b3 BK160) | ((with_reducible refine gate_callee (f := 68) rfl ?_); refine gl (some 10) Try.func68 #[.agg #[.int .i64 a0_0, .int .i64 a0_1, .slice A0_2 l0_2.length c0_2]] ?_; (with_reducible refine (field_New.calls k a0_0 a0_1 _ _ l0_2 n _ ?side1 ?side2 A2.out).mono ?_); (case side1 => repeat (first | exact (Kd.C_below HR0_2.out bel) | (with_reducible refine Kd.C_alloc ?_ _) | (with_reducible refine Kd.C_drewN ?_ _) | (with_reducible refine Kd.C_drew ?_))); (case side2 => exact HC0_2.out); rintro e w11 hp; obtain ⟨rfl, hb⟩ := hp.isBad c2; refine ⟨_, rfl, ?_⟩; replace BK160 := Aside0.mk (blk_below (g := gb160) (o := .cells #[.int .i64 a0_0, .int .i64 a0_1, .slice A0_2 l0_2.length c0_2] 33 (0, 0)) (ba BK160) hb); replace HB := bst hb; obtain ⟨hcz12_0, hcz12_1, hcz12_2, hfz12_0, hfz12_1, hfz12_2⟩ := b3 BK160))
   go_ret; exact ⟨.inl ⟨rfl, rfl⟩, bel⟩
  rw [if_neg c2] at h; obtain rfl := Option.some.inj h; go_enter Try.func24, Try.ntmps24; go_wp2_with (first | ((with_reducible refine gate_dst (N := 1) rfl ?_); refine bx (cs := #[.int .i64 a0_0, .int .i64 a0_1, .slice A0_2 l0_2.length c0_2]) (t := 33) ?_; intro gb160 hg w7 hbox hb; have n0_ := bst hb; have BK160 := Aside0.mk hbox; have GW160 := Aside0.mk ((by rw [hg]; exact bsz : w.heap.size ≤ gb160)); clear HB; have HB := n0_; clear n0_; clear hb hbox hg; obtain ⟨hcz8_0, hcz8_1, hcz8_2, hfz8_0, hfz8_1, hfz8_2⟩ := b3 BK160) | ((with_reducible refine gate_callee (f := 67) rfl ?_); refine gl (some 6) Try.func67 #[.agg #[.int .i64 a0_0, .int .i64 a0_1, .slice A0_2 l0_2.length c0_2]] ?_; (with_reducible refine (codewrightref04_Check.calls k a0_0 a0_1 _ _ l0_2 0 _ ?side1 ?side2 A1.out).mono ?_); (case side1 => repeat (first | exact (Kd.C_below HR0_2.out bel) | (with_reducible refine Kd.C_alloc ?_ _) | (with_reducible refine Kd.C_drewN ?_ _) | (with_reducible refine Kd.C_drew ?_))); (case side2 => exact HC0_2.out); rintro e w9 ⟨rfl, hb⟩; refine ⟨_, rfl, ?_⟩; replace BK160 := Aside0.mk (blk_below (g := gb160) (o := .cells #[.int .i64 a0_0, .int .i64 a0_1, .slice A0_2 l0_2.length c0_2] 33 (0, 0)) (ba BK160) hb); replace HB := bst hb; obtain ⟨hcz10_0, hcz10_1, hcz10_2, hfz10_0, hfz10_1, hfz10_2⟩ := b3 BK160) | ((with_reducible refine gate_callee (f := 68) rfl ?_); refine gl (some 10) Try.func68 #[.agg #[.int .i64 a0_0, .int .i64 a0_1, .slice A0_2 l0_2.length c0_2]] ?_; (with_reducible refine (field_New.calls k a0_0 a0_1 _ _ l0_2 n _ ?side1 ?side2 A2.out).mono ?_); (case side1 => repeat (first | exact (Kd.C_below HR0_2.out bel) | (with_reducible refine Kd.C_alloc ?_ _) | (with_reducible refine Kd.C_drewN ?_ _) | (with_reducible refine Kd.C_drew ?_))); (case side2 => exact HC0_2.out); rintro e w11 hp; obtain ⟨g, hgs, rfl, hat, hb⟩ := hp.isGood c2; have HG := Aside0.mk (GFd.At0.at hat (field_New_wf g A2.out c2)); have HGS := Aside0.mk (Nat.le_trans bsz hgs); clear hat hgs hp; refine ⟨_, rfl, ?_⟩; replace BK160 := Aside0.mk (blk_below (g := gb160) (o := .cells #[.int .i64 a0_0, .int .i64 a0_1, .slice A0_2 l0_2.length c0_2] 33 (0, 0)) (ba BK160) hb); replace HB := bst hb; obtain ⟨hcz12_0, hcz12_1, hcz12_2, hfz12_0, hfz12_1, hfz12_2⟩ := b3 BK160))
  go_ret; exact ⟨.inr ⟨n.1, n.2.1, n.2.2, g, rfl, HGS.out, rfl, HG.out⟩, bel⟩
 rw [if_neg c1] at h; obtain rfl := Option.some.inj h; have c1b1 : (t1 != 0) = true := bne_iff_ne.mpr c1; have c1b0 : (t1 == 0) = false := beq_eq_false_iff_ne.mpr c1; clear c1; go_enter Try.func24, Try.ntmps24; go_wp2_with (first | ((with_reducible refine gate_dst (N := 1) rfl ?_); refine bx (cs := #[.int .i64 a0_0, .int .i64 a0_1, .slice A0_2 l0_2.length c0_2]) (t := 33) ?_; intro gb160 hg w7 hbox hb; have n0_ := bst hb; have BK160 := Aside0.mk hbox; have GW160 := Aside0.mk ((by rw [hg]; exact bsz : w.heap.size ≤ gb160)); clear HB; have HB := n0_; clear n0_; clear hb hbox hg; obtain ⟨hcz8_0, hcz8_1, hcz8_2, hfz8_0, hfz8_1, hfz8_2⟩ := b3 BK160) | ((with_reducible refine gate_callee (f := 67) rfl ?_); refine gl (some 6) Try.func67 #[.agg #[.int .i64 a0_0, .int .i64 a0_1, .slice A0_2 l0_2.length c0_2]] ?_; (with_reducible refine (codewrightref04_Check.calls k a0_0 a0_1 _ _ l0_2 t1 _ ?side1 ?side2 A1.out).mono ?_); (case side1 => repeat (first | exact (Kd.C_below HR0_2.out bel) | (with_reducible refine Kd.C_alloc ?_ _) | (with_reducible refine Kd.C_drewN ?_ _) | (with_reducible refine Kd.C_drew ?_))); (case side2 => exact HC0_2.out); rintro e w9 ⟨rfl, hb⟩; refine ⟨_, rfl, ?_⟩; replace BK160 := Aside0.mk (blk_below (g := gb160) (o := .cells #[.int .i64 a0_0, .int .i64 a0_1, .slice A0_2 l0_2.length c0_2] 33 (0, 0)) (ba BK160) hb); replace HB := bst hb; obtain ⟨hcz10_0, hcz10_1, hcz10_2, hfz10_0, hfz10_1, hfz10_2⟩ := b3 BK160))
 go_ret; exact ⟨.inl ⟨rfl, rfl⟩, bel⟩
theorem bivariate_trimR.calls (k : Nat) (P0_ : Nat → Prop) (A0 : Option Addr) (c0 : Nat) (l0 : List (List Int)) (r : List (List Int)) (w : World) (hs0 : Kd.V (Kd.slice 3 (Kd.int .i64)) 31 w w.heap.size (fun k_ => P0_ k_) (.slice A0 l0.length c0) l0) (h : bivariate_trim.f k l0 = some r) :
  Calls Try.prog 70 #[.slice A0 l0.length c0] w fun e w' => ∃ v0_ : Value, e = .returned (v0_) ∧ TPre l0 A0 c0 r v0_ ∧ Kd.V (Kd.slice 3 (Kd.int .i64)) 31 w' w.heap.size (fun k_ => (P0_ k_ ∨ w.heap.size ≤ k_)) v0_ r ∧ Below w.heap.size w w' := by
 have HO0 := Aside0.mk (show Kd.V (Kd.slice 3 (Kd.int .i64)) 31 w w.heap.size (fun k_ => (P0_ k_ ∨ w.heap.size ≤ k_)) (.slice A0 l0.length c0) l0 from Kd.V_mono hs0 (fun k_ hk => .inl hk)); have HB := Aside0.mk (Below.refl w.heap.size w); have H : (bivariate_trim.l0 k l0) = some r := h; clear h; have H' := Aside0.mk H; clear H; go_enter Try.func70, Try.ntmps70; go_wp2; go_loopg [0] k (fun kq v0 w' => ∃ (x0_1 : List (List Int)), Aside0 (bivariate_trim.l0 kq x0_1 = some r) ∧ Aside0 (kq ≤ k) ∧ Aside0 (Kd.V (Kd.slice 3 (Kd.int .i64)) 31 w' w.heap.size (fun k_ => (P0_ k_ ∨ w.heap.size ≤ k_)) v0 x0_1) ∧ Aside0 (TPre l0 A0 c0 x0_1 v0) ∧ Aside0 (Below w.heap.size w w'))
 case atStart => exact ⟨(l0), H', ⟨Nat.le_refl _⟩, ⟨va HO0⟩, ⟨⟨l0.length, Nat.le_refl _, (List.take_length).symm, rfl⟩⟩, ⟨bel⟩⟩
 clear H'; obtain ⟨x0_1, HA, HK1, HO_0, HT, HB⟩ := hrel; rcases gk with _ | k1
 ·exact absurd HA.out (by simp [bivariate_trim.l0])
 have H := HA.out; clear HA; simp only [bivariate_trim.l0] at H
 by_cases c2 : (x0_1.length : Int) > 0
 ·rw [if_pos c2] at H; have c2b0 : decide (0 < (x0_1.length : Int)) = true := decide_eq_true c2; have c2b1 : decide (0 < x0_1.length) = true := decide_eq_true (by omega); clear c2; generalize hji3 : (wrap64 ((x0_1.length : Int) - 1)) = ji3 at H; have hji3w : (IntKind.i64.wrap ((x0_1.length : Int) - 1)) = ji3 := (i64_w _).trans hji3; replace H := ifd H; obtain ⟨c4b0, H⟩ := H; replace H := ifd H; obtain ⟨c5b0, H⟩ := H
  by_cases c6 : ((rd_L2 x0_1 (ji3)).length : Int) = 0
  ·rw [if_pos c6] at H; have c6b0 : (((rd_L2 x0_1 (ji3)).length : Int) == 0) = true := beq_iff_eq.mpr c6; have c6b1 : (((rd_L2 x0_1 (ji3)).length : Int) != 0) = false := bne_eq_false_iff_eq.mpr c6; clear c6; have c7b0 := eq_true (oda : 0 ≤ (ji3)); replace H := ift H; obtain ⟨c8b0, c8b1, H⟩ := H; generalize hy180 : ((x0_1.take ((ji3) : Int).toNat) : List (List Int)) = y180 at H; have Ny180 := Aside0.mk hy180.symm; clear hy180; have H' := Aside0.mk H; clear H; obtain ⟨Ao9, co9, eo9⟩ := Kd.V_slice HO_0.out; subst eo9; have p179 : 0 ≤ ((ji3) : Int) := oda; have q179 : (ji3) < (x0_1.length : Int) := oda; obtain ⟨ad179, A179_0, c179_0, e179, hx179_0, hl179_0, hi179_0⟩ := at_L2 (Kd.V_reads' HO_0.out).2.2 (ji3) p179 q179; cases e179; obtain ⟨ce179, hce179, hMe179, hcc179⟩ := Kd.V_get HO_0.out [] (ji3) p179 (by first | exact q179 | exact oda | (have e_ := (Kd.V_reads' HO_0.out).1; omega))
   obtain ⟨ua179_0, uc179_0, rfl, ul179_0, ge179_0⟩ := Kd.FK_slice_open hMe179; have hv179_0 := hcc179 0 _ rfl; rw [Nat.add_zero, show ((Kd.slice 3 (Kd.int .i64))).sz = 1 from rfl, Nat.mul_one] at hv179_0; replace hv179_0 := Option.some.inj (hv179_0.symm.trans hx179_0); injection hv179_0 with hva_ hvn_ hvc_
   rw [hva_] at ge179_0; rw [hvc_] at ul179_0; have HL179_0 := Aside0.mk (show Kd.V (Kd.int .i64) 3 _ w.heap.size _ _ (rd_L2 x0_1 (ji3)) from Kd.V_mk ul179_0 ge179_0); clear hva_ hvn_ hvc_ ge179_0 ul179_0; clear hcc179 hce179; have HR179_0 := Aside0.mk hi179_0; have HC179_0 := Aside0.mk hl179_0; clear hi179_0 hl179_0; replace p179 := eq_true p179; replace q179 := eq_true q179; have q10 : ((ji3) : Int) ≤ ((x0_1.length : Int) : Int) := oda; obtain ⟨i010, hi010, _, hsz10, _⟩ := info_parts info31; have hroom10 : x0_1.length ≤ co9 := (Kd.V_reads' HO_0.out).2.1; have hC10 : Kd.F (Kd.slice 3 (Kd.int .i64)) _ _ (some ad179) x0_1.length x0_1 := (Kd.V_at (base := w.heap.size) HO_0.out).2.2; have hcut10 := cut_to (P := Try.prog) 35 31 .i64 Try.underlying35 hi010 (some ad179) x0_1.length co9 (ji3) (oda) q10 hroom10; have hr10 := Kd.F_take (m := ((ji3) : Int).toNat) hC10 (by omega); have hy10 : y180.length = ((ji3) : Int).toNat := (by rw [Ny180.out, List.length_take]; omega)
   rw [← Ny180.out] at hr10; rw [← hy10] at hcut10; have HO184 := Aside0.mk (show Kd.V (Kd.slice 3 (Kd.int .i64)) 31 _ w.heap.size _ (.slice (some ad179) y180.length co9) y180 from Kd.V_mk (by omega) hr10); have HC184 := Aside0.mk (show y180.length ≤ co9 from by omega); clear hr10 hC10 hroom10 hi010 hsz10; have KY10 := Aside0.mk hy10; clear hy10; replace q10 := eq_true q10; go_wp2; go_roundg k1
   case measure => have := HK1.out; omega
   case rel => exact ⟨(y180), H', ⟨by have := HK1.out; omega⟩, ⟨va HO184⟩, ⟨TPre.next HT.out Ny180.out⟩, ⟨bel⟩⟩
  rw [if_neg c6] at H; have c6b0 : (((rd_L2 x0_1 (ji3)).length : Int) == 0) = false := beq_eq_false_iff_ne.mpr c6; have c6b1 : (((rd_L2 x0_1 (ji3)).length : Int) != 0) = true := bne_iff_ne.mpr c6; have c6b2 : ¬ ((rd_L2 x0_1 (ji3)) = []) := fun h_ => c6 (by rw [h_]; rfl)
  obtain rfl := Option.some.inj H; obtain ⟨Ao11, co11, eo11⟩ := Kd.V_slice HO_0.out; subst eo11; have p179 : 0 ≤ ((ji3) : Int) := oda; have q179 : (ji3) < (x0_1.length : Int) := oda; obtain ⟨ad179, A179_0, c179_0, e179, hx179_0, hl179_0, hi179_0⟩ := at_L2 (Kd.V_reads' HO_0.out).2.2 (ji3) p179 q179; cases e179; obtain ⟨ce179, hce179, hMe179, hcc179⟩ := Kd.V_get HO_0.out [] (ji3) p179 (by first | exact q179 | exact oda | (have e_ := (Kd.V_reads' HO_0.out).1; omega))
  obtain ⟨ua179_0, uc179_0, rfl, ul179_0, ge179_0⟩ := Kd.FK_slice_open hMe179; have hv179_0 := hcc179 0 _ rfl; rw [Nat.add_zero, show ((Kd.slice 3 (Kd.int .i64))).sz = 1 from rfl, Nat.mul_one] at hv179_0; replace hv179_0 := Option.some.inj (hv179_0.symm.trans hx179_0); injection hv179_0 with hva_ hvn_ hvc_
  rw [hva_] at ge179_0; rw [hvc_] at ul179_0; have HL179_0 := Aside0.mk (show Kd.V (Kd.int .i64) 3 _ w.heap.size _ _ (rd_L2 x0_1 (ji3)) from Kd.V_mk ul179_0 ge179_0); clear hva_ hvn_ hvc_ ge179_0 ul179_0; clear hcc179 hce179; have HR179_0 := Aside0.mk hi179_0; have HC179_0 := Aside0.mk hl179_0; clear hi179_0 hl179_0; replace p179 := eq_true p179; replace q179 := eq_true q179; go_wp2; go_ret; exact ⟨_, by first | rfl | (simp [errW_none, errW_some] <;> rfl) | (simp only [← hji3]; first | rfl | (simp [errW_none, errW_some] <;> rfl)) | (simp [*, errW_none, errW_some] <;> rfl), HT.out, by (with_reducible repeat (first | apply Kd.V_alloc | apply Kd.V_drewN | apply Kd.V_drew)); exact HO_0.out, bel⟩
 rw [if_neg c2] at H; have c2b0 : decide (0 < (x0_1.length : Int)) = false := decide_eq_false c2; have c2b1 : decide (0 < x0_1.length) = false := decide_eq_false (by omega); clear c2; obtain rfl := Option.some.inj H; obtain ⟨Ao12, co12, eo12⟩ := Kd.V_slice HO_0.out; subst eo12; go_wp2; go_ret; exact ⟨_, ren, HT.out, by (with_reducible repeat (first | apply Kd.V_alloc | apply Kd.V_drewN | apply Kd.V_drew)); exact HO_0.out, bel⟩
theorem TPre.rowS {α : Type} {d : Kd α} {e : Nat} {l0 r : List α} {A0 : Option Addr} {c0 : Nat} {v : Value} {w : World} {b : Nat} {ok : Nat → Prop} (h : TPre l0 A0 c0 r v) (ho : Kd.S d e w b ok (.slice A0 l0.length c0) l0) : Kd.S d e w b ok v r := by
 obtain ⟨m, hm, rfl, rfl⟩ := h; have h1 := Kd.S_take ho hm; rw [List.length_take, Nat.min_eq_left hm]; exact h1
def bivariate_CanonS.l0 : Nat → GFd → List (List Int) → List (List Int) → Int → Int → Option ((List (List Int)))
 | 0, _, _, _, _, _ => none
 | k + 1, x0, x5, x11, x12, x13 => if x13 < x12 then (if 0 ≤ x13 then (if x13 < (x11.length : Int) then ((poly_CanonR.f k x0 (rd_L2 x11 x13)).bind fun t180 => (if x13 < (x5.length : Int) then (bivariate_CanonS.l0 k x0 (x5.set (x13 : Int).toNat t180) x11 x12 (wrap64 (x13 + 1))) else (none))) else (none)) else (none)) else ((bivariate_trim.f k x5).bind fun t184 => (some t184))
def bivariate_CanonS.f (k : Nat) (a0 : GFd) (l1 : List (List Int)) : Option ((List (List Int))) := if 0 ≤ (l1.length : Int) then (if ((l1.length : Int) : Int).toNat ≤ 11728124029610 then (bivariate_CanonS.l0 k a0 (List.replicate ((l1.length : Int) : Int).toNat []) l1 (l1.length : Int) 0) else (none)) else (none)
theorem bivariate_CanonS.calls (k : Nat) (a0 : GFd) (A1 : Option Addr) (c1 : Nat) (l1 : List (List Int)) (r : List (List Int)) (w : World) (hg0 : GFd.At w a0) (hr1 : Kd.C (Kd.slice 3 (Kd.int .i64)) w A1 l1.length l1) (hc1 : l1.length ≤ c1) (h : bivariate_CanonS.f k a0 l1 = some r) :
  Calls Try.prog 27 #[.pointer (some ⟨a0.blk, 0, none⟩), .slice A1 l1.length c1] w fun e w' => ∃ v0_ : Value, e = .returned (v0_) ∧ Kd.S (Kd.slice 3 (Kd.int .i64)) 31 w' w.heap.size (fun _ => True) v0_ r ∧ Below w.heap.size w w' := by
 have HR1 := Aside0.mk hr1; have HC1 := Aside0.mk hc1; clear hr1 hc1; have HGF0 := Aside0.mk hg0; clear hg0; have HB := Aside0.mk (Below.refl w.heap.size w); have H : (if 0 ≤ (l1.length : Int) then (if ((l1.length : Int) : Int).toNat ≤ 11728124029610 then (bivariate_CanonS.l0 k a0 (List.replicate ((l1.length : Int) : Int).toNat []) l1 (l1.length : Int) 0) else (none)) else (none)) = some r := h; clear h; replace H := ift H; obtain ⟨c3b0, c3b1, H⟩ := H; replace H := ift H; obtain ⟨c4b0, c4b1, H⟩ := H; generalize hy176 : ((List.replicate ((l1.length : Int) : Int).toNat []) : List (List Int)) = y176 at H; have Ny176 := Aside0.mk hy176.symm; clear hy176; have H' := Aside0.mk H; clear H; go_enter Try.func27, Try.ntmps27; go_wp2_with (first | ((with_reducible refine gate_dst (N := 10) rfl ?_); refine Kd.S_make (Kd.slice 3 (Kd.int .i64)) _ 31 rfl (N := 10) rfl 35 _ _ rfl (l1.length : Int) rfl rfl Try.underlying35 (.slice none 0 0) 24 info31 rfl (by decide) (by omega) [] (ok := fun _ => True) (okp := fun _ => True) ⟨_, rfl, Kd.R_nil _ _ _ _ _⟩ (fun _ hk => hk) trivial (oda) (Nat.le_trans (Nat.mul_le_mul_right _ (oda : (l1.length : Int).toNat ≤ 11728124029610)) (by omega)) (Below.refl _ _) (Nat.le_refl _) ?_; intro v177 w5 ho6 hb hg_ hnew_; clear hg_ hnew_; (first | rw [← Ny176.out] at ho6 | (simp only [Int.reduceToNat] at ho6; rw [← Ny176.out] at ho6)); have HO178 := Aside0.mk (Kd.S_lower (Kd.S_newM (M := fun k_ => (w.heap.size ≤ k_)) ho6 bsz (fun k_ h_ => h_)) bsz); replace HB := bst hb; clear hb ho6))
 go_loopg [13] k (fun kq v13 w' => ∃ (x5_1 : List (List Int)) (x13_1 : Int), v13 = .int .i64 x13_1 ∧ Aside0 (bivariate_CanonS.l0 kq a0 x5_1 l1 (l1.length : Int) x13_1 = some r) ∧ Aside0 (kq ≤ k) ∧ Aside0 (Kd.S (Kd.slice 3 (Kd.int .i64)) 31 w' w.heap.size (fun k_ => (w.heap.size ≤ k_)) v177 x5_1) ∧ Aside0 (Below w.heap.size w w'))
 case atStart => exact ⟨(y176), (0), rs, H', ⟨Nat.le_refl _⟩, ⟨by (with_reducible repeat (first | apply Kd.S_alloc | apply Kd.S_drewN | apply Kd.S_drew)); exact Kd.S_mono HO178.out (fun _ hk => hk.1)⟩, ⟨bel⟩⟩
 clear H'; obtain ⟨x5_1, x13_1, rfl, HA, HK1, HO_5, HB⟩ := hrel; rcases gk with _ | k1
 ·exact absurd HA.out (by simp [bivariate_CanonS.l0])
 have H := HA.out; clear HA; simp only [bivariate_CanonS.l0] at H
 by_cases c7 : x13_1 < (l1.length : Int)
 ·rw [if_pos c7] at H; have c7b0 : decide (x13_1 < (l1.length : Int)) = true := decide_eq_true c7; clear c7; replace H := ifd H; obtain ⟨c8b0, H⟩ := H; replace H := ifd H; obtain ⟨c9b0, H⟩ := H; replace H := bz H; obtain ⟨t180, A10, H⟩ := H; replace H := ifd H; obtain ⟨c11b0, H⟩ := H; generalize hy183 : ((x5_1.set (x13_1 : Int).toNat t180) : List (List Int)) = y183 at H; have Ny183 := Aside0.mk hy183.symm; clear hy183; have H' := Aside0.mk H; clear H; have p179 : 0 ≤ (x13_1 : Int) := oda; have q179 : x13_1 < (l1.length : Int) := oda; obtain ⟨ad179, A179_0, c179_0, e179, hx179_0, hl179_0, hi179_0⟩ := at_L2 HR1.out x13_1 p179 q179; cases e179
  (try replace hx179_0 := hbc hx179_0)
  have HR179_0 := Aside0.mk hi179_0; have HC179_0 := Aside0.mk hl179_0; clear hi179_0 hl179_0; replace p179 := eq_true p179; replace q179 := eq_true q179; go_wp2_with (first | ((with_reducible refine gate_callee (f := 69) rfl ?_); refine gl (some 22) Try.func69 #[.pointer (some ⟨a0.blk, 0, none⟩), .slice A179_0 (rd_L2 l1 x13_1).length c179_0] ?_; (with_reducible refine (poly_CanonR.calls k1 a0 _ _ (rd_L2 l1 x13_1) t180 _ ?side1 ?side2 ?side3 A10.out).mono ?_); (case side1 => first | exact GFd.At.below HGF0.out bel); (case side2 => exact cb HR179_0); (case side3 => exact HC179_0.out); rintro e w13 ⟨v181, rfl, ho0, hb⟩; refine ⟨_, rfl, ?_⟩; replace HO_5 := Aside0.mk (Kd.S_elder' (by (with_reducible repeat (first | apply Kd.S_alloc | apply Kd.S_drewN | apply Kd.S_drew)); exact HO_5.out) (Kd.R_base ho0) hb); have HO182 := Aside0.mk (Kd.R_lower (Kd.R_newM (M := fun k_ => (w.heap.size ≤ k_)) ho0 bsz (fun k_ h_ => h_)) bsz); replace HB := bst hb; obtain ⟨Ao182, co182, eo182⟩ := Kd.R_slice HO182.out; subst eo182; have p12 : 0 ≤ (x13_1 : Int) := oda; have q12 : (x13_1 : Int) < ((x5_1.length : Int) : Int) := oda; obtain ⟨go12, co12, eo12, gb12, gl12, cl12, HG12⟩ := Kd.S_form HO_5.out (by omega); (first | cases eo12 | (injection eo12 with ea_ en_ ec_; (first | subst ea_ | (injection ea_ with ea_; subst ea_)); subst ec_; clear en_)); have GB12 := Aside0.mk gb12; have GG12 := Aside0.mk HG12; clear gb12 gl12 HG12; obtain ⟨_, ce12, hcl12, hM12, hcc12, hfr12, _, _⟩ := Kd.S_elem HO_5.out [] (x13_1 : Int) p12 q12; obtain ⟨ve12_0, rfl, ge12_0⟩ := hM12; have hx12_0 := hcc12 0 _ rfl; have hf12_0 := hfr12 0; (try simp only [show ((Kd.slice 3 (Kd.int .i64))).sz = 1 from rfl, Nat.mul_one, Nat.add_zero] at hx12_0); (try simp only [show ((Kd.slice 3 (Kd.int .i64))).sz = 1 from rfl, Nat.mul_one, Nat.add_zero] at hf12_0); clear hcl12 hcc12 hfr12; (try clear hM12); replace p12 := eq_true p12; replace q12 := eq_true q12; have HX14 := Aside0.mk (show Kd.S (Kd.slice 3 (Kd.int .i64)) 31 w13 w.heap.size (fun k_ => ((fun k_ => (w.heap.size ≤ k_))) k_ ∧ ¬ ((fun k_ => some k_ = ((.slice Ao182 t180.length co182) : Value).ownBlock)) k_) (.slice (some ⟨go12, 0, none⟩) x5_1.length co12) x5_1 from (by (with_reducible repeat (first | apply Kd.S_alloc | apply Kd.S_drewN | apply Kd.S_drew)); exact Kd.S_mono HO_5.out (fun k_ hk => ⟨hk.1, fun e_ => hk.2 e_⟩))); obtain ⟨oki14, ce14, hcl14, hM14, hcc14, hfr14, hoki14, hH14⟩ := Kd.S_elem HX14.out [] (x13_1 : Int) (oda) (by have h_ : (x13_1 : Int) < ((x5_1.length : Int) : Int) := oda; first | exact h_ | (have e_ := (Kd.S_reads' HO_5.out).1; omega) | simpa using h_); obtain ⟨ve14_0, rfl, ge14_0⟩ := hM14; have HP14 := Kd.S_seg hH14 (oda) (by have h_ : (x13_1 : Int) < ((x5_1.length : Int) : Int) := oda; first | exact h_ | (have e_ := (Kd.S_reads' HO_5.out).1; omega) | simpa using h_) (seg := [(.slice Ao182 t180.length co182)]) (j := 0) (show 1 ≤ 1 from by decide) (x' := t180) (Kd.M_row (Kd.R_mono (Kd.R_tight rfl (Kd.R_mono (ok' := fun k_ => ((fun k_ => (w.heap.size ≤ k_))) k_ ∧ k_ ≠ go12) (Kd.R_apart' (HO182.out) (Kd.S_typed HO_5.out) (by decide)) (fun k_ hk => ⟨hk.1.1, fun e_ => (hk.2) (by rw [e_]; rfl)⟩))) (fun _ h_ => Or.inr (h_)))) (fun _ hk => hk) (fun k_ hk_ => ((Kd.R_mono (ok' := fun k_ => ((fun k_ => (w.heap.size ≤ k_))) k_ ∧ k_ ≠ go12) (Kd.R_apart' (HO182.out) (Kd.S_typed HO_5.out) (by decide)) (fun k_ hk => ⟨hk.1.1, fun e_ => (hk.2) (by rw [e_]; rfl)⟩))).1 k_ hk_.symm); have hx14_0 := hcc14 0 _ rfl; (try simp only [show ((Kd.slice 3 (Kd.int .i64))).sz = 1 from rfl, Nat.mul_one, Nat.add_zero] at hx14_0); have hf14_0 := hfr14 0; (try simp only [show ((Kd.slice 3 (Kd.int .i64))).sz = 1 from rfl, Nat.mul_one, Nat.add_zero] at hf14_0); clear hcl14 hcc14 hfr14; (try clear hM14); clear hoki14 hH14; (try simp only [show ((Kd.slice 3 (Kd.int .i64))).sz = 1 from rfl, Nat.mul_one, Nat.add_zero] at HP14)) | ((with_reducible refine gate_store (t := 31) (p := 23) rfl ?_); refine store_event (t := 31) (p := 23) (v := ?vo_w15) (w1 := (w13.setCell ⟨go12, (x13_1 : Int).toNat, none⟩ ((.slice Ao182 t180.length co182)))) ?hg ?ho ?hn ?hr ?_; (case ho => rfl); (case hg => rfl); (case hn => rfl); (case hr => first | (go_simp; done) | (go_simp; rfl)); intro w15 hw; have hg : w13.grownBy w15 (some go12) := (by rw [hw]; exact HP14.2); have hp_ : Kd.S (Kd.slice 3 (Kd.int .i64)) 31 w15 w.heap.size (fun k_ => (w.heap.size ≤ k_)) (.slice (some ⟨go12, 0, none⟩) x5_1.length co12) y183 := (by rw [hw, Ny183.out]; exact HP14.1); clear HP14; replace HO_5 := Aside0.mk (hp_); replace HB := Aside0.mk ((by rw [hw]; exact below_set (HB.out) GB12.out : Below w.heap.size w w15)); clear HO182; clear hg hw hp_))
  go_roundg k1
  case measure => have := HK1.out; omega
  case rel => exact ⟨(y183), (wrap64 (x13_1 + 1)), rs, H', ⟨by have := HK1.out; omega⟩, ⟨by (with_reducible repeat (first | apply Kd.S_alloc | apply Kd.S_drewN | apply Kd.S_drew)); exact HO_5.out⟩, ⟨bel⟩⟩
 rw [if_neg c7] at H; have c7b0 : decide (x13_1 < (l1.length : Int)) = false := decide_eq_false c7; clear c7; replace H := bz H; obtain ⟨t184, A16, H⟩ := H; obtain rfl := Option.some.inj H; obtain ⟨Ao17, co17, eo17⟩ := Kd.S_slice HO_5.out; subst eo17; go_wp2_with (first | ((with_reducible refine gate_callee (f := 70) rfl ?_); refine gl (some 26) Try.func70 #[.slice Ao17 x5_1.length co17] ?_; (with_reducible refine (bivariate_trimR.calls k1 (fun k_ => (w.heap.size ≤ k_)) _ _ x5_1 t184 _ ?side1 A16.out).mono ?_); (case side1 => exact Kd.S_V (HO_5.out)); rintro e w18 ⟨v185, rfl, ht_, ho0, hb⟩; refine ⟨_, rfl, ?_⟩; have n0_ := Aside0.mk (Kd.S_below (by (with_reducible repeat (first | apply Kd.S_alloc | apply Kd.S_drewN | apply Kd.S_drew)); exact HO_5.out) hb); have n1_ := Aside0.mk (TPre.rowS ht_ n0_.out); clear ht_; have n2_ := bst hb; clear HO_5; clear HB; have HO_5 := n0_; have HO186 := n1_; have HB := n2_; clear n0_ n1_ n2_))
 go_ret; exact ⟨_, ren, by (with_reducible repeat (first | apply Kd.S_alloc | apply Kd.S_drewN | apply Kd.S_drew)); exact Kd.S_mono HO186.out (fun _ _ => trivial), bel⟩
mutual
def bivariate_shift.l0 : Nat → GFd → Int → List Int → Int → Int → Option (List Int)
 | 0, _, _, _, _, _ => none
 | k + 1, x0, x2, x7, x14, x15 => if x15 < x14 then (bivariate_shift.l1 k x0 x2 x7 x15 (wrap64 ((x7.length : Int) - 2)) x14 x15) else (some x7)
def bivariate_shift.l1 : Nat → GFd → Int → List Int → Int → Int → Int → Int → Option (List Int)
 | 0, _, _, _, _, _, _, _ => none
 | k + 1, x0, x2, x7, x8, x9, x14, x15 => if x9 ≥ x8 then (if 0 ≤ x9 then (if x9 < (x7.length : Int) then (if 0 ≤ (wrap64 (x9 + 1)) then (if (wrap64 (x9 + 1)) < (x7.length : Int) then ((field_GF_Mul.f x0 x2 (rd x7 (wrap64 (x9 + 1)))).bind fun t197 => ((field_GF_Add.f x0 (rd x7 x9) t197).bind fun t198 => (bivariate_shift.l1 k x0 x2 (x7.set (x9 : Int).toNat t198) x8 (wrap64 (x9 - 1)) x14 x15))) else (none)) else (none)) else (none)) else (none)) else (bivariate_shift.l0 k x0 x2 x7 x14 (wrap64 (x15 + 1)))
end
def bivariate_shift.f (k : Nat) (a0 : GFd) (l1 : List Int) (a2 : Int) : Option (List Int) := (poly_CanonR.f k a0 l1).bind fun t192 => (bivariate_shift.l0 k a0 a2 t192 (t192.length : Int) 0)
def bivariate_shift.T8 : Bool × List (List Nat × List Nat) := (true, [([], []), ([], []), ([], []), ([], []), ([], []), ([3, 4], [3, 4]), ([5], [5]), ([], []), ([], []), ([], []), ([], []), ([10], [10]), ([9, 11], [9, 11]), ([12], [12]), ([7, 8, 13], [7, 8, 13]), ([2, 6, 14, 14], [2, 6, 14]), ([0, 1, 0, 1, 2, 3, 4, 5, 6, 7, 8, 9, 10, 11, 12, 13, 14, 15], [0, 1]), ([16, 15, 15, 0, 1, 2, 3, 4, 5, 6, 7, 8, 9, 10, 11, 12, 13, 14, 15], [15, 16])])
def bivariate_shift.B8 : List Nat := [0, 0, 0, 0, 0, 24, 56, 0, 0, 0, 0, 1024, 3584, 7680, 16256, 32764, 65535, 131071]
theorem bivariate_shift.tab8 : rtab .any (opsOf Try.f77 8) = bivariate_shift.T8 := by kernel_rfl
theorem bivariate_shift.bits8 : waitsOk bivariate_shift.T8.2 bivariate_shift.B8 = true := by kernel_rfl
theorem bivariate_shift.calls (k : Nat) (a0 : GFd) (A1 : Option Addr) (c1 : Nat) (l1 : List Int) (a2 : Int) (r : List Int) (w : World) (hg0 : GFd.At w a0) (hr1 : Kd.C (Kd.int .i64) w A1 l1.length l1) (hc1 : l1.length ≤ c1) (h : bivariate_shift.f k a0 l1 a2 = some r) :
  Calls Try.prog 77 #[.pointer (some ⟨a0.blk, 0, none⟩), .slice A1 l1.length c1, .int .i64 a2] w fun e w' => ∃ v0_ : Value, e = .returned (v0_) ∧ Kd.R (Kd.int .i64) 3 w' w.heap.size (fun _ => True) v0_ r ∧ Below w.heap.size w w' := by
 have HR1 := Aside0.mk hr1; have HC1 := Aside0.mk hc1; clear hr1 hc1; have HGF0 := Aside0.mk hg0; clear hg0; have HB := Aside0.mk (Below.refl w.heap.size w); have H : ((poly_CanonR.f k a0 l1).bind fun t192 => (bivariate_shift.l0 k a0 a2 t192 (t192.length : Int) 0)) = some r := h; clear h; replace H := bz H; obtain ⟨t192, A4, H⟩ := H; have H' := Aside0.mk H; clear H; go_enter Try.func77, Try.ntmps77; go_wp2_with (first | ((with_reducible refine gate_callee (f := 69) rfl ?_); refine gl (some 12) Try.func69 #[.pointer (some ⟨a0.blk, 0, none⟩), .slice A1 l1.length c1] ?_; (with_reducible refine (poly_CanonR.calls k a0 _ _ l1 t192 _ ?side1 ?side2 ?side3 A4.out).mono ?_); (case side1 => first | exact GFd.At.below HGF0.out bel); (case side2 => repeat (first | exact HR1.out | (with_reducible refine Kd.C_alloc ?_ _) | (with_reducible refine Kd.C_drewN ?_ _) | (with_reducible refine Kd.C_drew ?_))); (case side3 => exact HC1.out); rintro e w5 ⟨v193, rfl, ho0, hb⟩; refine ⟨_, rfl, ?_⟩; have HO194 := Aside0.mk (Kd.R_lower ho0 bsz); replace HB := bst hb; obtain ⟨Ao6, co6, eo6⟩ := Kd.R_slice HO194.out; subst eo6))
 go_loopg [15] k (fun kq v15 w' => ∃ (x7_1 : List Int) (x15_1 : Int), v15 = .int .i64 x15_1 ∧ Aside0 (bivariate_shift.l0 kq a0 a2 x7_1 (t192.length : Int) x15_1 = some r) ∧ Aside0 (kq ≤ k) ∧ Aside0 (Kd.R (Kd.int .i64) 3 w' w.heap.size (fun _ => True) (.slice Ao6 t192.length co6) x7_1) ∧ Aside0 (Below w.heap.size w w'))
 case atStart => exact ⟨(t192), (0), rs, H', ⟨Nat.le_refl _⟩, ⟨ra HO194⟩, ⟨bel⟩⟩
 clear H'; obtain ⟨x7_1, x15_1, rfl, HA, HK1, HO_7, HB⟩ := hrel; have hl7_1 := (Kd.R_reads' HO_7.out).1; rw [hl7_1] at HO_7
 (try simp only [hl7_1])
 rcases gk with _ | k1
 ·exact absurd HA.out (by simp [bivariate_shift.l0])
 have H := HA.out; clear HA; simp only [bivariate_shift.l0] at H
 by_cases c7 : x15_1 < (t192.length : Int)
 ·rw [if_pos c7] at H; have c7b0 : decide (x15_1 < (t192.length : Int)) = true := decide_eq_true c7
  (try simp only [hl7_1] at c7b0)
  clear c7; have H' := Aside0.mk H; clear H; go_wp2; go_loopg [9] k1 (fun kq v9 w' => ∃ (x7_2 : List Int) (x9_2 : Int), v9 = .int .i64 x9_2 ∧ Aside0 (bivariate_shift.l1 kq a0 a2 x7_2 x15_1 x9_2 (t192.length : Int) x15_1 = some r) ∧ Aside0 (kq ≤ k1) ∧ Aside0 (Kd.R (Kd.int .i64) 3 w' w.heap.size (fun _ => True) (.slice Ao6 x7_1.length co6) x7_2) ∧ Aside0 (Below w.heap.size w w'))
  case atStart => exact ⟨(x7_1), (wrap64 ((x7_1.length : Int) - 2)), rs, H', ⟨Nat.le_refl _⟩, ⟨by (try simp only [hl7_1]); (with_reducible repeat (first | apply Kd.R_alloc | apply Kd.R_drewN | apply Kd.R_drew)); exact HO_7.out⟩, ⟨bel⟩⟩
  clear H'; obtain ⟨x7_2, x9_2, rfl, HA, HK2, HO_7, HB⟩ := hrel; have hl7_2 := (Kd.R_reads' HO_7.out).1; rw [hl7_2] at HO_7
  (try simp only [hl7_2])
  rcases gk with _ | k2
  ·exact absurd HA.out (by simp [bivariate_shift.l1])
  have H := HA.out; clear HA; simp only [bivariate_shift.l1] at H
  by_cases c8 : x9_2 ≥ x15_1
  ·rw [if_pos c8] at H; have c8b0 : decide (x15_1 ≤ x9_2) = true := decide_eq_true c8; clear c8; replace H := ifd H; obtain ⟨c9b0, H⟩ := H; replace H := ifp H; obtain ⟨c10, H⟩ := H; have c10b0 : decide (x9_2 < (x7_2.length : Int)) = true := decide_eq_true c10
   (try simp only [hl7_1] at c10b0); (try simp only [hl7_2] at c10b0)
   clear c10; generalize hji11 : (wrap64 (x9_2 + 1)) = ji11 at H; have hji11w : (IntKind.i64.wrap (x9_2 + 1)) = ji11 := (i64_w _).trans hji11; replace H := ifd H; obtain ⟨c12b0, H⟩ := H; replace H := ifp H; obtain ⟨c13, H⟩ := H; have c13b0 : decide ((ji11) < (x7_2.length : Int)) = true := decide_eq_true c13
   (try simp only [hl7_1] at c13b0); (try simp only [hl7_2] at c13b0)
   clear c13; replace H := bz H; obtain ⟨t197, A14, H⟩ := H; replace H := bz H; obtain ⟨t198, A15, H⟩ := H; generalize hy199 : ((x7_2.set (x9_2 : Int).toNat t198) : List Int) = y199 at H; have Ny199 := Aside0.mk hy199.symm; clear hy199; have H' := Aside0.mk H; clear H; try go_wp2
   replace HO_7 := Aside0.mk (Kd.R_drew HO_7.out); replace HB := Aside0.mk (below_drew1 HB.out); have p195 : 0 ≤ (x9_2 : Int) := oda; have q195 : x9_2 < (x7_2.length : Int) := oda; obtain ⟨ad195, e195, hx195_0⟩ := Kd.at_int (Kd.R_reads' HO_7.out).2.2 x9_2 p195 q195; cases e195; replace p195 := eq_true p195; replace q195 := eq_true q195; have p196 : 0 ≤ ((ji11) : Int) := oda; have q196 : (ji11) < (x7_2.length : Int) := oda; obtain ⟨ad196, e196, hx196_0⟩ := Kd.at_int (Kd.R_reads' HO_7.out).2.2 (ji11) p196 q196; obtain rfl : ad195 = ad196 := (by injection e196); replace p196 := eq_true p196; replace q196 := eq_true q196; refine st_ (S := fun w' => w'.cell? (ad195.add (x9_2).toNat) = some (.int .i64 (rd x7_2 x9_2)) ∧ w'.cell? (ad195.add ((ji11)).toNat) = some (.int .i64 (rd x7_2 (ji11)))) (ds := [17]) 18 bivariate_shift.tab8 bivariate_shift.bits8 ⟨hx195_0, hx196_0⟩ fun hHeld HT_ HW_ => ?_
   generalize wr.drew = w17 at HO_7 HB hx195_0 hx196_0 hHeld ⊢; refine pu 0 26 (bm 18 1) ?_; refine pu 1 27 (bm 18 3) ?_; refine pu 2 28 (bm 18 7) ?_; refine pu 3 29 (bm 18 15) ?_; refine pu 4 30 (bm 18 31) ?_; refine pu 5 31 (bm 18 63) ?_; refine pu 7 33 (bm 18 191) ?_; refine pu 8 34 (bm 18 447) ?_; refine pu 9 35 (bm 18 959) ?_; refine pu 10 36 (bm 18 1983) ?_; refine pu 11 37 (bm 18 4031) ?_; refine pu 12 38 (bm 18 8127) ?_; refine take_ (i := 6) (N := some 32) (v := ?_) (a' := ?_) (bm 18 8191) rfl rfl (take_ofW HT_.out HW_.out (by kernel_rfl)) (fun _ _ _ h => h) (Or.inl ⟨by rfl, ?_⟩) hHeld ?_ ?_; rotate_left
   ·rintro w' ⟨s0, s1⟩; go_simp; with_reducible rfl
   rotate_left
   ·simp only [Act.put, List.setIfInBounds_toArray, List.set_cons_zero, List.set_cons_succ, i64_w, i32_w]; rfl
   refine take_ (i := 13) (N := some 39) (v := ?_) (a' := ?_) (bm 18 16383) rfl rfl (take_ofW HT_.out HW_.out (by kernel_rfl)) (fun _ _ _ h => h) (Or.inl ⟨by rfl, ?_⟩) hHeld ?_ ?_; rotate_left
   ·rintro w' ⟨s0, s1⟩; go_simp; with_reducible rfl
   rotate_left
   ·simp only [Act.put, List.setIfInBounds_toArray, List.set_cons_zero, List.set_cons_succ, i64_w, i32_w]; rfl
   refine on 14 40 (bm 18 32767) fun K hK => ?_
   refine goes_ Try.func85 (by kernel_rfl) rfl #[.pointer (some ⟨a0.blk, 0, none⟩), .int .i64 a2, .int .i64 (rd x7_2 (ji11))] (by rfl) rfl rfl (by (try simp only [List.map_toArray, List.map_cons, List.map_nil]); first | done | (simp only [hji11]; rfl) | rfl | (simp only [List.length_drop, List.length_take]; rfl)) ?_
   with_reducible refine (field_GF_Mul.calls a0 a2 (rd x7_2 (ji11)) t197 _ ?side1 A14.out).mono ?_
   (case side1 => first | exact GFd.At.below HGF0.out bel)
   rintro e w18 ⟨rfl, hb⟩; have HS0_ := (hb.cell (World.block_lt_of_cell? _ _ (hHeld.1))).trans (hHeld.1); have HS1_ := (hb.cell (World.block_lt_of_cell? _ _ (hHeld.2))).trans (hHeld.2); refine ⟨_, rfl, ?_⟩; replace HO_7 := Aside0.mk (Kd.R_below (ra HO_7) hb); replace HB := bst hb; refine hK.out _ _ ⟨HS0_, HS1_⟩ (fun hHeld => ?_); clear hK K; refine nmz 40 ?_; refine on 15 41 (bm 18 65535) fun K hK => ?_
   refine gs Try.func84 #[.pointer (some ⟨a0.blk, 0, none⟩), .int .i64 (rd x7_2 x9_2), .int .i64 t197] ?_; with_reducible refine (field_GF_Add.calls a0 (rd x7_2 x9_2) t197 t198 _ ?side1 A15.out).mono ?_
   (case side1 => first | exact GFd.At.below HGF0.out bel)
   rintro e w19 ⟨rfl, hb⟩; have HS0_ := (hb.cell (World.block_lt_of_cell? _ _ (hHeld.1))).trans (hHeld.1); have HS1_ := (hb.cell (World.block_lt_of_cell? _ _ (hHeld.2))).trans (hHeld.2); refine ⟨_, rfl, ?_⟩; replace HO_7 := Aside0.mk (Kd.R_below (ra HO_7) hb); replace HB := bst hb; have p16 : 0 ≤ (x9_2 : Int) := oda; have q16 : (x9_2 : Int) < ((x7_2.length : Int) : Int) := oda; obtain ⟨go16, co16, eo16, gb16, gl16, cl16, HG16⟩ := Kd.R_form HO_7.out (by omega); (first | cases eo16 | (injection eo16 with ea_ en_ ec_; (first | subst ea_ | (injection ea_ with ea_; subst ea_)); subst ec_; clear en_))
   have GB16 := Aside0.mk gb16; have GG16 := Aside0.mk HG16; clear gb16 gl16 HG16; (first | simp only [add_plain] at hx195_0 | skip)
   (first | simp only [add_plain] at hx196_0 | skip)
   obtain ⟨hx16_0, hf16_0⟩ := Kd.R_celln 0 HO_7.out (x9_2 : Int) p16 q16; replace p16 := eq_true p16; replace q16 := eq_true q16; have HP20 := Kd.R_putn HO_7.out (x9_2 : Int) t198; rw [← Ny199.out] at HP20; have HQ20 := Aside0.mk HP20; clear HP20; refine hK.out _ _ ⟨HS0_, HS1_⟩ (fun hHeld => ?_); clear hK K; refine nmz 41 ?_; refine pu 16 42 (bm 18 131071) ?_; refine last_ (i := 17) (N := none) (bm 18 262143) rfl rfl (one_of HT_.out (by kernel_rfl)) (by decide) fun K hK => ?_
   refine skip_ (w1 := ?_) (by rfl) rfl ?_ ?_; rotate_left
   ·go_simp; rfl
   refine hK.out _ _ ?_; clear hK K; refine dn ?_; try go_wp2
   (try simp only [← hl7_2])
   go_roundg k2
   case measure => have := HK1.out; have := HK2.out; omega
   case rel => exact ⟨(y199), (wrap64 (x9_2 - 1)), rs, H', ⟨by have := HK1.out; have := HK2.out; omega⟩, ⟨by (try simp only [hl7_1]); (try simp only [hl7_2]); (with_reducible repeat (first | apply Kd.R_alloc | apply Kd.R_drewN | apply Kd.R_drew)); exact HQ20.out⟩, ⟨bel⟩⟩
  rw [if_neg c8] at H; have c8b0 : decide (x15_1 ≤ x9_2) = false := decide_eq_false c8; clear c8; have H' := Aside0.mk H; clear H; go_wp2
  (try simp only [← hl7_1, ← hl7_2])
  go_roundg k2
  case measure => have := HK1.out; have := HK2.out; omega
  case rel => exact ⟨(x7_2), (wrap64 (x15_1 + 1)), rs, H', ⟨by have := HK1.out; have := HK2.out; omega⟩, ⟨by (try simp only [hl7_1]); (try simp only [hl7_2]); (with_reducible repeat (first | apply Kd.R_alloc | apply Kd.R_drewN | apply Kd.R_drew)); exact HO_7.out⟩, ⟨bel⟩⟩
 rw [if_neg c7] at H; have c7b0 : decide (x15_1 < (t192.length : Int)) = false := decide_eq_false c7
 (try simp only [hl7_1] at c7b0); (try simp only [hl7_2] at c7b0)
 clear c7; obtain rfl := Option.some.inj H; go_wp2; go_ret; exact ⟨_, ren, by (with_reducible repeat (first | apply Kd.R_alloc | apply Kd.R_drewN | apply Kd.R_drew)); exact HO_7.out, bel⟩
mutual
def bivariate_Multiplicity.l0 : Nat → GFd → List (List Int) → Int → Int → Int → Int → Int → Option (Int)
 | 0, _, _, _, _, _, _, _ => none
 | k + 1, x0, x1, x2, x3, x9, x21, x22 => if x22 < x21 then (if 0 ≤ x22 then (if x22 < (x1.length : Int) then ((bivariate_shift.f k x0 (rd_L2 x1 x22) x2).bind fun t185 => ((some (x1.set (x22 : Int).toNat t185 : List (List Int))).bind fun y188 => (bivariate_Multiplicity.l0 k x0 y188 x2 x3 (mx x9 ((rd_L2 y188 x22).length : Int)) x21 (wrap64 (x22 + 1))))) else (none)) else (none)) else (bivariate_Multiplicity.l1 k x0 x1 x3 (-1) x9 0)
def bivariate_Multiplicity.l1 : Nat → GFd → List (List Int) → Int → Int → Int → Int → Option (Int)
 | 0, _, _, _, _, _, _ => none
 | k + 1, x0, x1, x3, x11, x43, x44 => if x44 < x43 then (if 0 ≤ (x1.length : Int) then (if ((x1.length : Int) : Int).toNat ≤ 35184372088832 then (bivariate_Multiplicity.l2 k x0 x1 x3 x11 x44 (List.replicate ((x1.length : Int) : Int).toNat 0) x43 x44 (x1.length : Int) 0) else (none)) else (none)) else (some x11)
def bivariate_Multiplicity.l2 : Nat → GFd → List (List Int) → Int → Int → Int → List Int → Int → Int → Int → Int → Option (Int)
 | 0, _, _, _, _, _, _, _, _, _, _ => none
 | k + 1, x0, x1, x3, x11, x12, x13, x43, x44, x51, x52 => if x52 < x51 then (if 0 ≤ x52 then (if x52 < (x1.length : Int) then (if x12 < ((rd_L2 x1 x52).length : Int) then (if 0 ≤ x12 then (if x52 < (x13.length : Int) then (bivariate_Multiplicity.l2 k x0 x1 x3 x11 x12 (x13.set (x52 : Int).toNat (rd (rd_L2 x1 x52) x12)) x43 x44 x51 (wrap64 (x52 + 1))) else (none)) else (none)) else (bivariate_Multiplicity.l2 k x0 x1 x3 x11 x12 x13 x43 x44 x51 (wrap64 (x52 + 1)))) else (none)) else (none)) else ((bivariate_shift.f k x0 x13 x3).bind fun t197 => (bivariate_Multiplicity.l3 k x0 x1 x3 x11 x12 x43 x44 t197 (t197.length : Int) 0))
def bivariate_Multiplicity.l3 : Nat → GFd → List (List Int) → Int → Int → Int → Int → Int → List Int → Int → Int → Option (Int)
 | 0, _, _, _, _, _, _, _, _, _, _ => none
 | k + 1, x0, x1, x3, x11, x12, x43, x44, x76, x77, x78 => if x78 < x77 then (if 0 ≤ x78 then (if x78 < (x76.length : Int) then (if (rd x76 x78) = 0 then (bivariate_Multiplicity.l3 k x0 x1 x3 x11 x12 x43 x44 x76 x77 (wrap64 (x78 + 1))) else (if x11 < 0 then (bivariate_Multiplicity.l3 k x0 x1 x3 (wrap64 (x12 + x78)) x12 x43 x44 x76 x77 (wrap64 (x78 + 1))) else (if (wrap64 (x12 + x78)) < x11 then (bivariate_Multiplicity.l3 k x0 x1 x3 (wrap64 (x12 + x78)) x12 x43 x44 x76 x77 (wrap64 (x78 + 1))) else (bivariate_Multiplicity.l3 k x0 x1 x3 x11 x12 x43 x44 x76 x77 (wrap64 (x78 + 1)))))) else (none)) else (none)) else (bivariate_Multiplicity.l1 k x0 x1 x3 x11 x43 (wrap64 (x44 + 1)))
end
def bivariate_Multiplicity.f (k : Nat) (a0 : GFd) (l1 : List (List Int)) (a2 : Int) (a3 : Int) : Option (Int) := (bivariate_CanonS.f k a0 l1).bind fun t181 => (bivariate_Multiplicity.l0 k a0 t181 a2 a3 0 (t181.length : Int) 0)
theorem bivariate_Multiplicity.calls (k : Nat) (a0 : GFd) (A1 : Option Addr) (c1 : Nat) (l1 : List (List Int)) (a2 : Int) (a3 : Int) (r : Int) (w : World) (hg0 : GFd.At w a0) (hr1 : Kd.C (Kd.slice 3 (Kd.int .i64)) w A1 l1.length l1) (hc1 : l1.length ≤ c1) (h : bivariate_Multiplicity.f k a0 l1 a2 a3 = some r) :
  Calls Try.prog 35 #[.pointer (some ⟨a0.blk, 0, none⟩), .slice A1 l1.length c1, .int .i64 a2, .int .i64 a3] w fun e w' => e = .returned (.int .i64 r) ∧ Below w.heap.size w w' := by
 have HR1 := Aside0.mk hr1; have HC1 := Aside0.mk hc1; clear hr1 hc1; have HGF0 := Aside0.mk hg0; clear hg0; have HB := Aside0.mk (Below.refl w.heap.size w); have H : ((bivariate_CanonS.f k a0 l1).bind fun t181 => (bivariate_Multiplicity.l0 k a0 t181 a2 a3 0 (t181.length : Int) 0)) = some r := h; clear h; replace H := bz H; obtain ⟨t181, A5, H⟩ := H; have H' := Aside0.mk H; clear H; go_enter Try.func35, Try.ntmps35; go_wp2_with (first | ((with_reducible refine gate_callee (f := 27) rfl ?_); refine gl (some 19) Try.func27 #[.pointer (some ⟨a0.blk, 0, none⟩), .slice A1 l1.length c1] ?_; (with_reducible refine (bivariate_CanonS.calls k a0 _ _ l1 t181 _ ?side1 ?side2 ?side3 A5.out).mono ?_); (case side1 => first | exact GFd.At.below HGF0.out bel); (case side2 => repeat (first | exact HR1.out | (with_reducible refine Kd.C_alloc ?_ _) | (with_reducible refine Kd.C_drewN ?_ _) | (with_reducible refine Kd.C_drew ?_))); (case side3 => exact HC1.out); rintro e w6 ⟨v182, rfl, ho0, hb⟩; refine ⟨_, rfl, ?_⟩; have HO183 := Aside0.mk (Kd.S_lower ho0 bsz); replace HB := bst hb; obtain ⟨Ao7, co7, eo7⟩ := Kd.S_slice HO183.out; subst eo7))
 go_loopg [9, 22] k (fun kq v9 v22 w' => ∃ (x1_1 : List (List Int)) (x9_1 : Int) (x22_1 : Int), v9 = .int .i64 x9_1 ∧ v22 = .int .i64 x22_1 ∧ Aside0 (bivariate_Multiplicity.l0 kq a0 x1_1 a2 a3 x9_1 (t181.length : Int) x22_1 = some r) ∧ Aside0 (kq ≤ k) ∧ Aside0 (Kd.S (Kd.slice 3 (Kd.int .i64)) 31 w' w.heap.size (fun _ => True) (.slice Ao7 t181.length co7) x1_1) ∧ Aside0 (Below w.heap.size w w'))
 case atStart => exact ⟨(t181), (0), (0), rs, rs, H', ⟨Nat.le_refl _⟩, ⟨by (with_reducible repeat (first | apply Kd.S_alloc | apply Kd.S_drewN | apply Kd.S_drew)); exact HO183.out⟩, ⟨bel⟩⟩
 clear H'; obtain ⟨x1_1, x9_1, x22_1, rfl, rfl, HA, HK1, HO_1, HB⟩ := hrel; have hl1_1 := (Kd.S_reads' HO_1.out).1; rw [hl1_1] at HO_1
 (try simp only [hl1_1])
 rcases gk with _ | k1
 ·exact absurd HA.out (by simp [bivariate_Multiplicity.l0])
 have H := HA.out; clear HA; simp only [bivariate_Multiplicity.l0] at H
 by_cases c8 : x22_1 < (t181.length : Int)
 ·rw [if_pos c8] at H; have c8b0 : decide (x22_1 < (t181.length : Int)) = true := decide_eq_true c8
  (try simp only [hl1_1] at c8b0)
  (try simp only [hl1_1] at c8b0)
  (try simp only [hl1_1] at c8b0)
  clear c8; replace H := ifd H; obtain ⟨c9b0, H⟩ := H; replace H := ifp H; obtain ⟨c10, H⟩ := H; have c10b0 : decide (x22_1 < (x1_1.length : Int)) = true := decide_eq_true c10
  (try simp only [hl1_1] at c10b0)
  (try simp only [hl1_1] at c10b0)
  (try simp only [hl1_1] at c10b0)
  clear c10; replace H := bz H; obtain ⟨t185, A11, H⟩ := H; generalize hy188 : ((x1_1.set (x22_1 : Int).toNat t185) : List (List Int)) = y188 at H; replace H := bs_ H; have Ny188 := Aside0.mk hy188.symm; clear hy188; generalize hji13 : (mx x9_1 ((rd_L2 y188 x22_1).length : Int)) = ji13 at H
  (try rw [hji13] at A11)
  have hji13_ : (if x9_1 < ((rd_L2 y188 x22_1).length : Int) then ((rd_L2 y188 x22_1).length : Int) else x9_1) = ji13 := hji13; have H' := Aside0.mk H; clear H; have p184 : 0 ≤ (x22_1 : Int) := oda; have q184 : x22_1 < (x1_1.length : Int) := oda; obtain ⟨ad184, A184_0, c184_0, e184, hx184_0, hl184_0, hi184_0⟩ := at_L2 (Kd.S_reads' HO_1.out).2.2 x22_1 p184 q184; cases e184; obtain ⟨ce184, hce184, hMe184, hcc184⟩ := Kd.S_get HO_1.out [] x22_1 p184 (by first | exact q184 | exact oda | (have e_ := (Kd.S_reads' HO_1.out).1; omega))
  obtain ⟨ve184_0, rfl, ge184_0⟩ := hMe184; have hv184_0 := hcc184 0 _ rfl; rw [Nat.add_zero, show ((Kd.slice 3 (Kd.int .i64))).sz = 1 from rfl, Nat.mul_one] at hv184_0; replace hv184_0 := Option.some.inj (hv184_0.symm.trans hx184_0); rw [hv184_0] at ge184_0; have HL184_0 := Aside0.mk (show Kd.R (Kd.int .i64) 3 _ _ _ _ (rd_L2 x1_1 x22_1) from ge184_0); clear hv184_0 ge184_0; clear hcc184 hce184; have HR184_0 := Aside0.mk hi184_0; have HC184_0 := Aside0.mk hl184_0; clear hi184_0 hl184_0; replace p184 := eq_true p184; replace q184 := eq_true q184; go_wp2_with (first | ((with_reducible refine gate_callee (f := 77) rfl ?_); refine gl (some 33) Try.func77 #[.pointer (some ⟨a0.blk, 0, none⟩), .slice A184_0 (rd_L2 x1_1 x22_1).length c184_0, .int .i64 a2] ?_; (with_reducible refine (bivariate_shift.calls k1 a0 _ _ (rd_L2 x1_1 x22_1) a2 t185 _ ?side1 ?side2 ?side3 A11.out).mono ?_); (case side1 => first | exact GFd.At.below HGF0.out bel); (case side2 => repeat (first | exact (by repeat (first | (with_reducible exact HR184_0.out) | (with_reducible refine Kd.C_alloc ?_ _) | (with_reducible refine Kd.C_drewN ?_ _) | (with_reducible refine Kd.C_drew ?_) | exact HR184_0.out)) | (with_reducible refine Kd.C_alloc ?_ _) | (with_reducible refine Kd.C_drewN ?_ _) | (with_reducible refine Kd.C_drew ?_))); (case side3 => exact HC184_0.out); rintro e w14 ⟨v186, rfl, ho0, hb⟩; refine ⟨_, rfl, ?_⟩; replace HO_1 := Aside0.mk (Kd.S_elder' (by (with_reducible repeat (first | apply Kd.S_alloc | apply Kd.S_drewN | apply Kd.S_drew)); exact HO_1.out) (Kd.R_base ho0) hb); have HO187 := Aside0.mk (Kd.R_lower (Kd.R_new' ho0 (Kd.R_lt (ra HL184_0))) bsz); replace HL184_0 := Aside0.mk (Kd.R_elder' (ra HL184_0) (Kd.R_base ho0) hb); replace HR184_0 := Aside0.mk (Kd.C_below (by repeat (first | (with_reducible exact HR184_0.out) | (with_reducible refine Kd.C_alloc ?_ _) | (with_reducible refine Kd.C_drewN ?_ _) | (with_reducible refine Kd.C_drew ?_) | exact HR184_0.out)) hb); replace HB := bst hb; obtain ⟨Ao187, co187, eo187⟩ := Kd.R_slice HO187.out; subst eo187; have p12 : 0 ≤ (x22_1 : Int) := oda; have q12 : (x22_1 : Int) < ((x1_1.length : Int) : Int) := oda; obtain ⟨go12, co12, eo12, gb12, gl12, cl12, HG12⟩ := Kd.S_form HO_1.out (by omega); (first | cases eo12 | (injection eo12 with ea_ en_ ec_; (first | subst ea_ | (injection ea_ with ea_; subst ea_)); subst ec_; clear en_)); have GB12 := Aside0.mk gb12; have GG12 := Aside0.mk HG12; clear gb12 gl12 HG12; (first | simp only [add_plain] at hx184_0 | skip); obtain ⟨_, ce12, hcl12, hM12, hcc12, hfr12, _, _⟩ := Kd.S_elem HO_1.out [] (x22_1 : Int) p12 q12; obtain ⟨ve12_0, rfl, ge12_0⟩ := hM12; have hx12_0 := hcc12 0 _ rfl; have hf12_0 := hfr12 0; (try simp only [show ((Kd.slice 3 (Kd.int .i64))).sz = 1 from rfl, Nat.mul_one, Nat.add_zero] at hx12_0); (try simp only [show ((Kd.slice 3 (Kd.int .i64))).sz = 1 from rfl, Nat.mul_one, Nat.add_zero] at hf12_0); clear hcl12 hcc12 hfr12; (try clear hM12); replace p12 := eq_true p12; replace q12 := eq_true q12; have n_ := Aside0.mk (Kd.S_mono (ok' := (fun k_ => some k_ ≠ ((.slice Ao187 t185.length co187) : Value).ownBlock)) HO_1.out (fun k_ hk => hk.2)); clear HO_1; have HO_1 := n_; clear n_; have HX15 := Aside0.mk (show Kd.S (Kd.slice 3 (Kd.int .i64)) 31 w14 w.heap.size (fun k_ => ((fun _ => True)) k_ ∧ ¬ ((fun k_ => some k_ = ((.slice Ao187 t185.length co187) : Value).ownBlock)) k_) (.slice (some ⟨go12, 0, none⟩) x1_1.length co7) x1_1 from (by (with_reducible repeat (first | apply Kd.S_alloc | apply Kd.S_drewN | apply Kd.S_drew)); exact Kd.S_mono HO_1.out (fun k_ hk => ⟨trivial, fun e_ => hk e_⟩))); obtain ⟨oki15, ce15, hcl15, hM15, hcc15, hfr15, hoki15, hH15⟩ := Kd.S_elem HX15.out [] (x22_1 : Int) (oda) (by have h_ : (x22_1 : Int) < ((x1_1.length : Int) : Int) := oda; first | exact h_ | (have e_ := (Kd.S_reads' HO_1.out).1; omega) | simpa using h_); obtain ⟨ve15_0, rfl, ge15_0⟩ := hM15; have HP15 := Kd.S_seg hH15 (oda) (by have h_ : (x22_1 : Int) < ((x1_1.length : Int) : Int) := oda; first | exact h_ | (have e_ := (Kd.S_reads' HO_1.out).1; omega) | simpa using h_) (seg := [(.slice Ao187 t185.length co187)]) (j := 0) (show 1 ≤ 1 from by decide) (x' := t185) (Kd.M_row (Kd.R_mono (Kd.R_tight rfl (Kd.R_mono (ok' := fun k_ => ((fun _ => True)) k_ ∧ k_ ≠ go12) (Kd.R_apart' (HO187.out) (Kd.S_typed HO_1.out) (by decide)) (fun k_ hk => ⟨trivial, fun e_ => (hk.2) (by rw [e_]; rfl)⟩))) (fun _ h_ => Or.inr (h_)))) (fun _ hk => hk) (fun k_ hk_ => ((Kd.R_mono (ok' := fun k_ => ((fun _ => True)) k_ ∧ k_ ≠ go12) (Kd.R_apart' (HO187.out) (Kd.S_typed HO_1.out) (by decide)) (fun k_ hk => ⟨trivial, fun e_ => (hk.2) (by rw [e_]; rfl)⟩))).1 k_ hk_.symm); have hx15_0 := hcc15 0 _ rfl; (try simp only [show ((Kd.slice 3 (Kd.int .i64))).sz = 1 from rfl, Nat.mul_one, Nat.add_zero] at hx15_0); have hf15_0 := hfr15 0; (try simp only [show ((Kd.slice 3 (Kd.int .i64))).sz = 1 from rfl, Nat.mul_one, Nat.add_zero] at hf15_0); clear hcl15 hcc15 hfr15; (try clear hM15); clear hoki15 hH15; (try simp only [show ((Kd.slice 3 (Kd.int .i64))).sz = 1 from rfl, Nat.mul_one, Nat.add_zero] at HP15)) | ((with_reducible refine gate_store (t := 31) (p := 34) rfl ?_); refine store_event (t := 31) (p := 34) (v := ?vo_w16) (w1 := (w14.setCell ⟨go12, (x22_1 : Int).toNat, none⟩ ((.slice Ao187 t185.length co187)))) ?hg ?ho ?hn ?hr ?_; (case ho => rfl); (case hg => rfl); (case hn => rfl); (case hr => first | (go_simp; done) | (go_simp; rfl)); intro w16 hw; have hg : w14.grownBy w16 (some go12) := (by rw [hw]; exact HP15.2); have hp_ : Kd.S (Kd.slice 3 (Kd.int .i64)) 31 w16 w.heap.size (fun _ => True) (.slice (some ⟨go12, 0, none⟩) x1_1.length co7) y188 := (by rw [hw, Ny188.out]; exact HP15.1); clear HP15; replace HO_1 := Aside0.mk (hp_); replace HL184_0 := Aside0.mk (Kd.R_after (v := (.slice (some ⟨go12, 0, none⟩) x1_1.length co7)) (v1 := (.slice (some ⟨go12, 0, none⟩) x1_1.length co7)) (ok := (fun k_ => some k_ ≠ ((.slice Ao187 t185.length co187) : Value).ownBlock)) (Kd.R_mono (ra HL184_0) (fun _ hk => ⟨hk.2, hk.1.2⟩)) hg (.inl rfl)); replace HB := Aside0.mk ((by rw [hw]; exact below_set (HB.out) GB12.out : Below w.heap.size w w16)); clear HO187; clear hg hw hp_; have p189 : 0 ≤ (x22_1 : Int) := oda; have q189 : x22_1 < (y188.length : Int) := (by have h_ : (x22_1 : Int) < ((x1_1.length : Int) : Int) := oda; first | (have e_ := (Kd.S_reads' HO_1.out).1; omega) | simpa only [Ny188.out, List.length_set] using h_); have ql189 : ((x22_1 : Int) < ((x1_1.length : Int) : Int)) = True := eq_true (oda); obtain ⟨ad189, A189_0, c189_0, e189, hx189_0, hl189_0, hi189_0⟩ := at_L2 (Kd.S_reads' HO_1.out).2.2 x22_1 p189 q189; obtain rfl : (⟨go12, 0, none⟩ : Addr) = ad189 := (by injection e189); obtain ⟨ce189, hce189, hMe189, hcc189⟩ := Kd.S_get HO_1.out [] x22_1 p189 (by first | exact q189 | exact oda | (have e_ := (Kd.S_reads' HO_1.out).1; omega)); obtain ⟨ve189_0, rfl, ge189_0⟩ := hMe189; have hv189_0 := hcc189 0 _ rfl; rw [Nat.add_zero, show ((Kd.slice 3 (Kd.int .i64))).sz = 1 from rfl, Nat.mul_one] at hv189_0; replace hv189_0 := Option.some.inj (hv189_0.symm.trans hx189_0); rw [hv189_0] at ge189_0; have HL189_0 := Aside0.mk (show Kd.R (Kd.int .i64) 3 _ _ _ _ (rd_L2 y188 x22_1) from ge189_0); clear hv189_0 ge189_0; clear hcc189 hce189; (first | simp only [add_plain] at hx189_0 | simp only [add_at] at hx189_0 | simp only [Addr.add, Nat.zero_add] at hx189_0 | skip); have HR189_0 := Aside0.mk hi189_0; have HC189_0 := Aside0.mk hl189_0; clear hi189_0 hl189_0; replace p189 := eq_true p189; replace q189 := eq_true q189))
  (try simp only [← hl1_1])
  go_roundg k1
  case measure => have := HK1.out; omega
  case rel => exact ⟨(y188), (ji13), (wrap64 (x22_1 + 1)), (by first | rfl | (simp; done) | (simp only [← hji13] <;> (first | rfl | simp)) | (simp [*]; done)), rs, H', ⟨by have := HK1.out; omega⟩, ⟨by (try simp only [hl1_1]); (with_reducible repeat (first | apply Kd.S_alloc | apply Kd.S_drewN | apply Kd.S_drew)); exact HO_1.out⟩, ⟨bel⟩⟩
 rw [if_neg c8] at H; have c8b0 : decide (x22_1 < (t181.length : Int)) = false := decide_eq_false c8
 (try simp only [hl1_1] at c8b0)
 (try simp only [hl1_1] at c8b0)
 (try simp only [hl1_1] at c8b0)
 clear c8; have H' := Aside0.mk H; clear H; go_wp2; go_loopg [11, 44] k1 (fun kq v11 v44 w' => ∃ (x11_2 : Int) (x44_2 : Int), v11 = .int .i64 x11_2 ∧ v44 = .int .i64 x44_2 ∧ Aside0 (bivariate_Multiplicity.l1 kq a0 x1_1 a3 x11_2 x9_1 x44_2 = some r) ∧ Aside0 (kq ≤ k1) ∧ Aside0 (Kd.S (Kd.slice 3 (Kd.int .i64)) 31 w' w.heap.size (fun _ => True) (.slice Ao7 x1_1.length co7) x1_1) ∧ Aside0 (Below w.heap.size w w'))
 case atStart => exact ⟨((-1)), (0), rs, rs, H', ⟨Nat.le_refl _⟩, ⟨by (try simp only [hl1_1]); (with_reducible repeat (first | apply Kd.S_alloc | apply Kd.S_drewN | apply Kd.S_drew)); exact HO_1.out⟩, ⟨bel⟩⟩
 clear H'; obtain ⟨x11_2, x44_2, rfl, rfl, HA, HK2, HO_1, HB⟩ := hrel; rcases gk with _ | k2
 ·exact absurd HA.out (by simp [bivariate_Multiplicity.l1])
 have H := HA.out; clear HA; simp only [bivariate_Multiplicity.l1] at H
 by_cases c17 : x44_2 < x9_1
 ·rw [if_pos c17] at H; have c17b0 : decide (x44_2 < x9_1) = true := decide_eq_true c17; clear c17; replace H := ifp H; obtain ⟨c18, H⟩ := H; have c18b0 := eq_true c18; have c18b1 : decide (0 ≤ (x1_1.length : Int)) = true := decide_eq_true c18
  (try simp only [hl1_1] at c18b1)
  (try simp only [hl1_1] at c18b1)
  (try simp only [hl1_1] at c18b1)
  clear c18; replace H := ifp H; obtain ⟨c19, H⟩ := H; have c19b0 := eq_true c19; have c19b1 : decide (((x1_1.length : Int) : Int).toNat ≤ 35184372088832) = true := decide_eq_true c19
  (try simp only [hl1_1] at c19b1)
  (try simp only [hl1_1] at c19b1)
  (try simp only [hl1_1] at c19b1)
  clear c19; generalize hy190 : ((List.replicate ((x1_1.length : Int) : Int).toNat 0) : List Int) = y190 at H; have Ny190 := Aside0.mk hy190.symm; clear hy190; have H' := Aside0.mk H; clear H; go_wp2_with (first | ((with_reducible refine gate_dst (N := 49) rfl ?_); refine Kd.R_make (Kd.int .i64) _ 3 rfl (N := 49) rfl 31 _ _ rfl (x1_1.length : Int) rfl rfl Try.underlying31 (.int .i64 0) 8 info3 rfl (by decide) (by omega) 0 (ok := fun _ => True) (okp := fun _ => True) rfl (fun _ hk => hk) trivial (oda) (Nat.le_trans (Nat.mul_le_mul_right _ (oda : (x1_1.length : Int).toNat ≤ 35184372088832)) (by omega)) (Below.refl _ _) (Nat.le_refl _) ?_; intro v191 w20 ho21 hb hg_ hnew_; clear hg_ hnew_; (first | rw [← Ny190.out] at ho21 | (simp only [Int.reduceToNat] at ho21; rw [← Ny190.out] at ho21)); replace HO_1 := Aside0.mk (Kd.S_elder' (by (with_reducible repeat (first | apply Kd.S_alloc | apply Kd.S_drewN | apply Kd.S_drew)); exact HO_1.out) (Kd.R_base ho21) hb); have HO192 := Aside0.mk (Kd.R_lower ho21 bsz); replace HB := bst hb; clear hb ho21))
  go_loopg [52] k2 (fun kq v52 w' => ∃ (x13_3 : List Int) (x52_3 : Int), v52 = .int .i64 x52_3 ∧ Aside0 (bivariate_Multiplicity.l2 kq a0 x1_1 a3 x11_2 x44_2 x13_3 x9_1 x44_2 (x1_1.length : Int) x52_3 = some r) ∧ Aside0 (kq ≤ k2) ∧ Aside0 (Kd.S (Kd.slice 3 (Kd.int .i64)) 31 w' w.heap.size (fun k_ => some k_ ≠ (v191 : Value).ownBlock) (.slice Ao7 x1_1.length co7) x1_1) ∧ Aside0 (Kd.R (Kd.int .i64) 3 w' w.heap.size (fun _ => True) v191 x13_3) ∧ Aside0 (Below w.heap.size w w'))
  case atStart => exact ⟨(y190), (0), rs, H', ⟨Nat.le_refl _⟩, ⟨by (try simp only [hl1_1]); (with_reducible repeat (first | apply Kd.S_alloc | apply Kd.S_drewN | apply Kd.S_drew)); exact Kd.S_mono HO_1.out (fun _ hk => hk.2)⟩, ⟨by (try simp only [hl1_1]); (with_reducible repeat (first | apply Kd.R_alloc | apply Kd.R_drewN | apply Kd.R_drew)); exact HO192.out⟩, ⟨bel⟩⟩
  clear H'; obtain ⟨x13_3, x52_3, rfl, HA, HK3, HO_1, HO_13, HB⟩ := hrel; rcases gk with _ | k3
  ·exact absurd HA.out (by simp [bivariate_Multiplicity.l2])
  have H := HA.out; clear HA; simp only [bivariate_Multiplicity.l2] at H
  by_cases c22 : x52_3 < (x1_1.length : Int)
  ·rw [if_pos c22] at H; have c22b0 : decide (x52_3 < (x1_1.length : Int)) = true := decide_eq_true c22
   (try simp only [hl1_1] at c22b0)
   (try simp only [hl1_1] at c22b0)
   (try simp only [hl1_1] at c22b0)
   clear c22; replace H := ifd H; obtain ⟨c23b0, H⟩ := H; replace H := ifp H; obtain ⟨c24, H⟩ := H; have c24b0 : decide (x52_3 < (x1_1.length : Int)) = true := decide_eq_true c24
   (try simp only [hl1_1] at c24b0)
   (try simp only [hl1_1] at c24b0)
   (try simp only [hl1_1] at c24b0)
   clear c24
   by_cases c25 : x44_2 < ((rd_L2 x1_1 x52_3).length : Int)
   ·rw [if_pos c25] at H; have c25b0 : decide (x44_2 < ((rd_L2 x1_1 x52_3).length : Int)) = true := decide_eq_true c25
    (try simp only [hl1_1] at c25b0)
    (try simp only [hl1_1] at c25b0)
    (try simp only [hl1_1] at c25b0)
    clear c25; replace H := ifd H; obtain ⟨c26b0, H⟩ := H; replace H := ifp H; obtain ⟨c27, H⟩ := H; have c27b0 : decide (x52_3 < (x13_3.length : Int)) = true := decide_eq_true c27
    (try simp only [hl1_1] at c27b0)
    (try simp only [hl1_1] at c27b0)
    (try simp only [hl1_1] at c27b0)
    clear c27; generalize hy196 : ((x13_3.set (x52_3 : Int).toNat (rd (rd_L2 x1_1 x52_3) x44_2)) : List Int) = y196 at H; have Ny196 := Aside0.mk hy196.symm; clear hy196; have H' := Aside0.mk H; clear H; have p193 : 0 ≤ (x52_3 : Int) := oda; have q193 : x52_3 < (x1_1.length : Int) := oda; obtain ⟨ad193, A193_0, c193_0, e193, hx193_0, hl193_0, hi193_0⟩ := at_L2 (Kd.S_reads' HO_1.out).2.2 x52_3 p193 q193; cases e193; obtain ⟨ce193, hce193, hMe193, hcc193⟩ := Kd.S_get HO_1.out [] x52_3 p193 (by first | exact q193 | exact oda | (have e_ := (Kd.S_reads' HO_1.out).1; omega))
    obtain ⟨ve193_0, rfl, ge193_0⟩ := hMe193; have hv193_0 := hcc193 0 _ rfl; rw [Nat.add_zero, show ((Kd.slice 3 (Kd.int .i64))).sz = 1 from rfl, Nat.mul_one] at hv193_0; replace hv193_0 := Option.some.inj (hv193_0.symm.trans hx193_0); rw [hv193_0] at ge193_0; have HL193_0 := Aside0.mk (show Kd.R (Kd.int .i64) 3 _ _ _ _ (rd_L2 x1_1 x52_3) from ge193_0); clear hv193_0 ge193_0; clear hcc193 hce193; have HR193_0 := Aside0.mk hi193_0; have HC193_0 := Aside0.mk hl193_0; clear hi193_0 hl193_0; replace p193 := eq_true p193; replace q193 := eq_true q193; have p194 : 0 ≤ (x52_3 : Int) := oda; have q194 : x52_3 < (x1_1.length : Int) := oda; obtain ⟨ad194, A194_0, c194_0, e194, hx194_0, hl194_0, hi194_0⟩ := at_L2 (Kd.S_reads' HO_1.out).2.2 x52_3 p194 q194; obtain rfl : ad193 = ad194 := (by injection e194); obtain ⟨ce194, hce194, hMe194, hcc194⟩ := Kd.S_get HO_1.out [] x52_3 p194 (by first | exact q194 | exact oda | (have e_ := (Kd.S_reads' HO_1.out).1; omega))
    obtain ⟨ve194_0, rfl, ge194_0⟩ := hMe194; have hv194_0 := hcc194 0 _ rfl; rw [Nat.add_zero, show ((Kd.slice 3 (Kd.int .i64))).sz = 1 from rfl, Nat.mul_one] at hv194_0; replace hv194_0 := Option.some.inj (hv194_0.symm.trans hx194_0); rw [hv194_0] at ge194_0; have HL194_0 := Aside0.mk (show Kd.R (Kd.int .i64) 3 _ _ _ _ (rd_L2 x1_1 x52_3) from ge194_0); clear hv194_0 ge194_0; clear hcc194 hce194; have HR194_0 := Aside0.mk hi194_0; have HC194_0 := Aside0.mk hl194_0; clear hi194_0 hl194_0; replace p194 := eq_true p194; replace q194 := eq_true q194; have ea_ := Option.some.inj (hx193_0.symm.trans hx194_0); injection ea_ with ea_ en_ ec_
    subst ea_; subst ec_; clear en_; have p195 : 0 ≤ (x44_2 : Int) := oda; have q195 : x44_2 < ((rd_L2 x1_1 x52_3).length : Int) := oda; obtain ⟨ad195, e195, hx195_0⟩ := Kd.at_int (by repeat (first | (with_reducible exact HR194_0.out) | (with_reducible refine Kd.C_alloc ?_ _) | (with_reducible refine Kd.C_drewN ?_ _) | (with_reducible refine Kd.C_drew ?_) | exact HR194_0.out)) x44_2 p195 q195; cases e195; replace p195 := eq_true p195; replace q195 := eq_true q195; have p28 : 0 ≤ (x52_3 : Int) := oda; have q28 : (x52_3 : Int) < ((x13_3.length : Int) : Int) := oda; obtain ⟨go28, co28, eo28, gb28, gl28, cl28, HG28⟩ := Kd.R_form HO_13.out (by omega); (first | cases eo28 | (injection eo28 with ea_ en_ ec_; (first | subst ea_ | (injection ea_ with ea_; subst ea_)); subst ec_; clear en_))
    have GB28 := Aside0.mk gb28; have GG28 := Aside0.mk HG28; clear gb28 gl28 HG28; obtain ⟨hx28_0, hf28_0⟩ := Kd.R_celln 0 HO_13.out (x52_3 : Int) p28 q28; replace p28 := eq_true p28; replace q28 := eq_true q28; have HP29 := Kd.R_putg HO_13.out (x52_3 : Int) (rd (rd_L2 x1_1 x52_3) x44_2); go_wp2_with (first | ((with_reducible refine gate_store (t := 3) (p := 71) rfl ?_); refine store_event (t := 3) (p := 71) (v := ?vo_w30) (w1 := (wr.setCell ⟨go28, (x52_3 : Int).toNat, none⟩ (.int .i64 (rd (rd_L2 x1_1 x52_3) x44_2)))) ?hg ?ho ?hn ?hr ?_; (case ho => rfl); (case hg => rfl); (case hn => rfl); (case hr => first | (go_simp; done) | (go_simp; rfl)); intro w30 hw; have hg : wr.grownBy w30 (some go28) := (by rw [hw]; exact HP29.2); have hp_ : Kd.R (Kd.int .i64) 3 w30 w.heap.size (fun _ => True) (.slice (some ⟨go28, 0, none⟩) x13_3.length co28) y196 := (by rw [hw, Ny196.out]; exact HP29.1); clear HP29; replace HO_1 := Aside0.mk (Kd.S_after (v := (.slice (some ⟨go28, 0, none⟩) x13_3.length co28)) (v1 := (.slice (some ⟨go28, 0, none⟩) x13_3.length co28)) (ok := (fun _ => True)) (by (with_reducible repeat (first | apply Kd.S_alloc | apply Kd.S_drewN | apply Kd.S_drew)); exact Kd.S_mono HO_1.out (fun _ hk => ⟨trivial, hk⟩)) hg (.inl rfl)); replace HO_13 := Aside0.mk (hp_); replace HL193_0 := Aside0.mk (Kd.R_after (v := (.slice (some ⟨go28, 0, none⟩) x13_3.length co28)) (v1 := (.slice (some ⟨go28, 0, none⟩) x13_3.length co28)) (ok := (fun k_ => some k_ ≠ (.slice (some ad193) x1_1.length co7 : Value).ownBlock)) (Kd.R_mono (ra HL193_0) (fun _ hk => ⟨hk.2, hk.1⟩)) hg (.inl rfl)); replace HL194_0 := Aside0.mk (Kd.R_after (v := (.slice (some ⟨go28, 0, none⟩) x13_3.length co28)) (v1 := (.slice (some ⟨go28, 0, none⟩) x13_3.length co28)) (ok := (fun k_ => some k_ ≠ (.slice (some ad193) x1_1.length co7 : Value).ownBlock)) (Kd.R_mono (ra HL194_0) (fun _ hk => ⟨hk.2, hk.1⟩)) hg (.inl rfl)); replace HB := Aside0.mk ((by rw [hw]; exact below_set (HB.out) GB28.out : Below w.heap.size w w30)); clear hg hw hp_))
    go_roundg k3
    case measure => have := HK1.out; have := HK2.out; have := HK3.out; omega
    case rel => exact ⟨(y196), (wrap64 (x52_3 + 1)), rs, H', ⟨by have := HK1.out; have := HK2.out; have := HK3.out; omega⟩, ⟨by (try simp only [hl1_1]); (with_reducible repeat (first | apply Kd.S_alloc | apply Kd.S_drewN | apply Kd.S_drew)); exact Kd.S_mono HO_1.out (fun _ hk => hk.2)⟩, ⟨by (try simp only [hl1_1]); (with_reducible repeat (first | apply Kd.R_alloc | apply Kd.R_drewN | apply Kd.R_drew)); exact HO_13.out⟩, ⟨bel⟩⟩
   rw [if_neg c25] at H; have c25b0 : decide (x44_2 < ((rd_L2 x1_1 x52_3).length : Int)) = false := decide_eq_false c25
   (try simp only [hl1_1] at c25b0)
   (try simp only [hl1_1] at c25b0)
   (try simp only [hl1_1] at c25b0)
   clear c25; have H' := Aside0.mk H; clear H; have p193 : 0 ≤ (x52_3 : Int) := oda; have q193 : x52_3 < (x1_1.length : Int) := oda; obtain ⟨ad193, A193_0, c193_0, e193, hx193_0, hl193_0, hi193_0⟩ := at_L2 (Kd.S_reads' HO_1.out).2.2 x52_3 p193 q193; cases e193; obtain ⟨ce193, hce193, hMe193, hcc193⟩ := Kd.S_get HO_1.out [] x52_3 p193 (by first | exact q193 | exact oda | (have e_ := (Kd.S_reads' HO_1.out).1; omega))
   obtain ⟨ve193_0, rfl, ge193_0⟩ := hMe193; have hv193_0 := hcc193 0 _ rfl; rw [Nat.add_zero, show ((Kd.slice 3 (Kd.int .i64))).sz = 1 from rfl, Nat.mul_one] at hv193_0; replace hv193_0 := Option.some.inj (hv193_0.symm.trans hx193_0); rw [hv193_0] at ge193_0; have HL193_0 := Aside0.mk (show Kd.R (Kd.int .i64) 3 _ _ _ _ (rd_L2 x1_1 x52_3) from ge193_0); clear hv193_0 ge193_0; clear hcc193 hce193; have HR193_0 := Aside0.mk hi193_0; have HC193_0 := Aside0.mk hl193_0; clear hi193_0 hl193_0; replace p193 := eq_true p193; replace q193 := eq_true q193; go_wp2; go_roundg k3
   case measure => have := HK1.out; have := HK2.out; have := HK3.out; omega
   case rel => exact ⟨(x13_3), (wrap64 (x52_3 + 1)), rs, H', ⟨by have := HK1.out; have := HK2.out; have := HK3.out; omega⟩, ⟨by (try simp only [hl1_1]); (with_reducible repeat (first | apply Kd.S_alloc | apply Kd.S_drewN | apply Kd.S_drew)); exact HO_1.out⟩, ⟨by (try simp only [hl1_1]); (with_reducible repeat (first | apply Kd.R_alloc | apply Kd.R_drewN | apply Kd.R_drew)); exact HO_13.out⟩, ⟨bel⟩⟩
  rw [if_neg c22] at H; have c22b0 : decide (x52_3 < (x1_1.length : Int)) = false := decide_eq_false c22
  (try simp only [hl1_1] at c22b0)
  (try simp only [hl1_1] at c22b0)
  (try simp only [hl1_1] at c22b0)
  clear c22; replace H := bz H; obtain ⟨t197, A31, H⟩ := H; have H' := Aside0.mk H; clear H; obtain ⟨Ao32, co32, eo32⟩ := Kd.R_slice HO_13.out; subst eo32; go_wp2_with (first | ((with_reducible refine gate_callee (f := 77) rfl ?_); refine gl (some 76) Try.func77 #[.pointer (some ⟨a0.blk, 0, none⟩), .slice Ao32 x13_3.length co32, .int .i64 a3] ?_; (with_reducible refine (bivariate_shift.calls k3 a0 _ _ x13_3 a3 t197 _ ?side1 ?side2 ?side3 A31.out).mono ?_); (case side1 => first | exact GFd.At.below HGF0.out bel); (case side2 => repeat (first | exact (Kd.R_reads' HO_13.out).2.2 | (with_reducible refine Kd.C_alloc ?_ _) | (with_reducible refine Kd.C_drewN ?_ _) | (with_reducible refine Kd.C_drew ?_))); (case side3 => exact (Kd.R_reads' HO_13.out).2.1); rintro e w33 ⟨v198, rfl, ho0, hb⟩; refine ⟨_, rfl, ?_⟩; replace HO_1 := Aside0.mk (Kd.S_elder' (by (with_reducible repeat (first | apply Kd.S_alloc | apply Kd.S_drewN | apply Kd.S_drew)); exact HO_1.out) (Kd.R_base ho0) hb); have HO199 := Aside0.mk (Kd.R_lower (Kd.R_new' ho0 (Kd.R_lt (ra HO_13))) bsz); replace HO_13 := Aside0.mk (Kd.R_elder' (ra HO_13) (Kd.R_base ho0) hb); replace HB := bst hb; obtain ⟨Ao34, co34, eo34⟩ := Kd.R_slice HO199.out; subst eo34))
  go_loopg [11, 78] k3 (fun kq v11 v78 w' => ∃ (x11_4 : Int) (x78_4 : Int), v11 = .int .i64 x11_4 ∧ v78 = .int .i64 x78_4 ∧ Aside0 (bivariate_Multiplicity.l3 kq a0 x1_1 a3 x11_4 x44_2 x9_1 x44_2 t197 (t197.length : Int) x78_4 = some r) ∧ Aside0 (kq ≤ k3) ∧ Aside0 (Kd.S (Kd.slice 3 (Kd.int .i64)) 31 w' w.heap.size (fun k_ => some k_ ≠ ((.slice Ao34 t197.length co34) : Value).ownBlock) (.slice Ao7 x1_1.length co7) x1_1) ∧ Aside0 (Kd.R (Kd.int .i64) 3 w' w.heap.size (fun _ => True) (.slice Ao34 t197.length co34) t197) ∧ Aside0 (Below w.heap.size w w'))
  case atStart => exact ⟨(x11_2), (0), rs, rs, H', ⟨Nat.le_refl _⟩, ⟨by (try simp only [hl1_1]); (with_reducible repeat (first | apply Kd.S_alloc | apply Kd.S_drewN | apply Kd.S_drew)); exact Kd.S_mono HO_1.out (fun _ hk => hk.2)⟩, ⟨by (try simp only [hl1_1]); (with_reducible repeat (first | apply Kd.R_alloc | apply Kd.R_drewN | apply Kd.R_drew)); exact Kd.R_mono HO199.out (fun _ hk => trivial)⟩, ⟨bel⟩⟩
  clear H'; obtain ⟨x11_4, x78_4, rfl, rfl, HA, HK4, HO_1, HO_76, HB⟩ := hrel; rcases gk with _ | k4
  ·exact absurd HA.out (by simp [bivariate_Multiplicity.l3])
  have H := HA.out; clear HA; simp only [bivariate_Multiplicity.l3] at H
  by_cases c35 : x78_4 < (t197.length : Int)
  ·rw [if_pos c35] at H; have c35b0 : decide (x78_4 < (t197.length : Int)) = true := decide_eq_true c35
   (try simp only [hl1_1] at c35b0)
   (try simp only [hl1_1] at c35b0)
   (try simp only [hl1_1] at c35b0)
   clear c35; replace H := ifd H; obtain ⟨c36b0, H⟩ := H; replace H := ifp H; obtain ⟨c37, H⟩ := H; have c37b0 : decide (x78_4 < (t197.length : Int)) = true := decide_eq_true c37
   (try simp only [hl1_1] at c37b0)
   (try simp only [hl1_1] at c37b0)
   (try simp only [hl1_1] at c37b0)
   clear c37
   by_cases c38 : (rd t197 x78_4) = 0
   ·rw [if_pos c38] at H; have c38b0 : ((rd t197 x78_4) == 0) = true := beq_iff_eq.mpr c38; have c38b1 : ((rd t197 x78_4) != 0) = false := bne_eq_false_iff_eq.mpr c38; clear c38; have H' := Aside0.mk H; clear H; have p200 : 0 ≤ (x78_4 : Int) := oda; have q200 : x78_4 < (t197.length : Int) := oda; obtain ⟨ad200, e200, hx200_0⟩ := Kd.at_int (Kd.R_reads' HO_76.out).2.2 x78_4 p200 q200; cases e200; replace p200 := eq_true p200; replace q200 := eq_true q200; go_wp2; go_roundg k4
    case measure => have := HK1.out; have := HK2.out; have := HK3.out; have := HK4.out; omega
    case rel => exact ⟨(x11_4), (wrap64 (x78_4 + 1)), rs, rs, H', ⟨by have := HK1.out; have := HK2.out; have := HK3.out; have := HK4.out; omega⟩, ⟨by (try simp only [hl1_1]); (with_reducible repeat (first | apply Kd.S_alloc | apply Kd.S_drewN | apply Kd.S_drew)); exact HO_1.out⟩, ⟨by (try simp only [hl1_1]); (with_reducible repeat (first | apply Kd.R_alloc | apply Kd.R_drewN | apply Kd.R_drew)); exact HO_76.out⟩, ⟨bel⟩⟩
   rw [if_neg c38] at H; have c38b0 : ((rd t197 x78_4) == 0) = false := beq_eq_false_iff_ne.mpr c38; have c38b1 : ((rd t197 x78_4) != 0) = true := bne_iff_ne.mpr c38
   by_cases c39 : x11_4 < 0
   ·rw [if_pos c39] at H; have c39b0 : decide (x11_4 < 0) = true := decide_eq_true c39; clear c39; have H' := Aside0.mk H; clear H; have p200 : 0 ≤ (x78_4 : Int) := oda; have q200 : x78_4 < (t197.length : Int) := oda; obtain ⟨ad200, e200, hx200_0⟩ := Kd.at_int (Kd.R_reads' HO_76.out).2.2 x78_4 p200 q200; cases e200; replace p200 := eq_true p200; replace q200 := eq_true q200; go_wp2; go_roundg k4
    case measure => have := HK1.out; have := HK2.out; have := HK3.out; have := HK4.out; omega
    case rel => exact ⟨(wrap64 (x44_2 + x78_4)), (wrap64 (x78_4 + 1)), rs, rs, H', ⟨by have := HK1.out; have := HK2.out; have := HK3.out; have := HK4.out; omega⟩, ⟨by (try simp only [hl1_1]); (with_reducible repeat (first | apply Kd.S_alloc | apply Kd.S_drewN | apply Kd.S_drew)); exact HO_1.out⟩, ⟨by (try simp only [hl1_1]); (with_reducible repeat (first | apply Kd.R_alloc | apply Kd.R_drewN | apply Kd.R_drew)); exact HO_76.out⟩, ⟨bel⟩⟩
   rw [if_neg c39] at H; have c39b0 : decide (x11_4 < 0) = false := decide_eq_false c39; clear c39
   by_cases c40 : (wrap64 (x44_2 + x78_4)) < x11_4
   ·rw [if_pos c40] at H; have c40b0 : decide ((wrap64 (x44_2 + x78_4)) < x11_4) = true := decide_eq_true c40; clear c40; have H' := Aside0.mk H; clear H; have p200 : 0 ≤ (x78_4 : Int) := oda; have q200 : x78_4 < (t197.length : Int) := oda; obtain ⟨ad200, e200, hx200_0⟩ := Kd.at_int (Kd.R_reads' HO_76.out).2.2 x78_4 p200 q200; cases e200; replace p200 := eq_true p200; replace q200 := eq_true q200; go_wp2; go_roundg k4
    case measure => have := HK1.out; have := HK2.out; have := HK3.out; have := HK4.out; omega
    case rel => exact ⟨(wrap64 (x44_2 + x78_4)), (wrap64 (x78_4 + 1)), rs, rs, H', ⟨by have := HK1.out; have := HK2.out; have := HK3.out; have := HK4.out; omega⟩, ⟨by (try simp only [hl1_1]); (with_reducible repeat (first | apply Kd.S_alloc | apply Kd.S_drewN | apply Kd.S_drew)); exact HO_1.out⟩, ⟨by (try simp only [hl1_1]); (with_reducible repeat (first | apply Kd.R_alloc | apply Kd.R_drewN | apply Kd.R_drew)); exact HO_76.out⟩, ⟨bel⟩⟩
   rw [if_neg c40] at H; have c40b0 : decide ((wrap64 (x44_2 + x78_4)) < x11_4) = false := decide_eq_false c40; clear c40; have H' := Aside0.mk H; clear H; have p200 : 0 ≤ (x78_4 : Int) := oda; have q200 : x78_4 < (t197.length : Int) := oda; obtain ⟨ad200, e200, hx200_0⟩ := Kd.at_int (Kd.R_reads' HO_76.out).2.2 x78_4 p200 q200; cases e200; replace p200 := eq_true p200; replace q200 := eq_true q200; go_wp2; go_roundg k4
   case measure => have := HK1.out; have := HK2.out; have := HK3.out; have := HK4.out; omega
   case rel => exact ⟨(x11_4), (wrap64 (x78_4 + 1)), rs, rs, H', ⟨by have := HK1.out; have := HK2.out; have := HK3.out; have := HK4.out; omega⟩, ⟨by (try simp only [hl1_1]); (with_reducible repeat (first | apply Kd.S_alloc | apply Kd.S_drewN | apply Kd.S_drew)); exact HO_1.out⟩, ⟨by (try simp only [hl1_1]); (with_reducible repeat (first | apply Kd.R_alloc | apply Kd.R_drewN | apply Kd.R_drew)); exact HO_76.out⟩, ⟨bel⟩⟩
  rw [if_neg c35] at H; have c35b0 : decide (x78_4 < (t197.length : Int)) = false := decide_eq_false c35
  (try simp only [hl1_1] at c35b0)
  (try simp only [hl1_1] at c35b0)
  (try simp only [hl1_1] at c35b0)
  clear c35; have H' := Aside0.mk H; clear H; go_wp2; go_roundg k4
  case measure => have := HK1.out; have := HK2.out; have := HK3.out; have := HK4.out; omega
  case rel => exact ⟨(x11_4), (wrap64 (x44_2 + 1)), rs, rs, H', ⟨by have := HK1.out; have := HK2.out; have := HK3.out; have := HK4.out; omega⟩, ⟨by (try simp only [hl1_1]); (with_reducible repeat (first | apply Kd.S_alloc | apply Kd.S_drewN | apply Kd.S_drew)); exact Kd.S_mono HO_1.out (fun _ hk => trivial)⟩, ⟨bel⟩⟩
 rw [if_neg c17] at H; have c17b0 : decide (x44_2 < x9_1) = false := decide_eq_false c17; clear c17; obtain rfl := Option.some.inj H; go_wp2; go_ret; exact ⟨ren, bel⟩
def bivariate_weighted.l0 : Nat → Int → Int → List (List Int) → Int → Int → Option (Int)
 | 0, _, _, _, _, _ => none
 | k + 1, x1, x5, x8, x9, x10 => if x10 < x9 then (if 0 ≤ x10 then (if x10 < (x8.length : Int) then (if ((rd_L2 x8 x10).length : Int) > 0 then (bivariate_weighted.l0 k x1 (mx x5 (wrap64 ((wrap64 (((rd_L2 x8 x10).length : Int) - 1)) + (wrap64 (x1 * x10))))) x8 x9 (wrap64 (x10 + 1))) else (bivariate_weighted.l0 k x1 x5 x8 x9 (wrap64 (x10 + 1)))) else (none)) else (none)) else (some x5)
def bivariate_weighted.f (k : Nat) (l0 : List (List Int)) (a1 : Int) : Option (Int) := bivariate_weighted.l0 k a1 (-1) l0 (l0.length : Int) 0
theorem bivariate_weighted.calls (k : Nat) (A0 : Option Addr) (c0 : Nat) (l0 : List (List Int)) (a1 : Int) (r : Int) (w : World) (hr0 : Kd.C (Kd.slice 3 (Kd.int .i64)) w A0 l0.length l0) (hc0 : l0.length ≤ c0) (h : bivariate_weighted.f k l0 a1 = some r) :
  Calls Try.prog 76 #[.slice A0 l0.length c0, .int .i64 a1] w fun e w' => e = .returned (.int .i64 r) ∧ Below w.heap.size w w' := by
 have HR0 := Aside0.mk hr0; have HC0 := Aside0.mk hc0; clear hr0 hc0; have HB := Aside0.mk (Below.refl w.heap.size w); have H : (bivariate_weighted.l0 k a1 (-1) l0 (l0.length : Int) 0) = some r := h; clear h; have H' := Aside0.mk H; clear H; go_enter Try.func76, Try.ntmps76; go_wp2; go_loopg [5, 10] k (fun kq v5 v10 w' => ∃ (x5_1 : Int) (x10_1 : Int), v5 = .int .i64 x5_1 ∧ v10 = .int .i64 x10_1 ∧ Aside0 (bivariate_weighted.l0 kq a1 x5_1 l0 (l0.length : Int) x10_1 = some r) ∧ Aside0 (kq ≤ k) ∧ Aside0 (Below w.heap.size w w'))
 case atStart => exact ⟨((-1)), (0), rs, rs, H', ⟨Nat.le_refl _⟩, ⟨bel⟩⟩
 clear H'; obtain ⟨x5_1, x10_1, rfl, rfl, HA, HK1, HB⟩ := hrel; rcases gk with _ | k1
 ·exact absurd HA.out (by simp [bivariate_weighted.l0])
 have H := HA.out; clear HA; simp only [bivariate_weighted.l0] at H
 by_cases c3 : x10_1 < (l0.length : Int)
 ·rw [if_pos c3] at H; have c3b0 : decide (x10_1 < (l0.length : Int)) = true := decide_eq_true c3; clear c3; replace H := ifd H; obtain ⟨c4b0, H⟩ := H; replace H := ifd H; obtain ⟨c5b0, H⟩ := H
  by_cases c6 : ((rd_L2 l0 x10_1).length : Int) > 0
  ·rw [if_pos c6] at H; have c6b0 : decide (0 < ((rd_L2 l0 x10_1).length : Int)) = true := decide_eq_true c6; have c6b1 : decide (0 < (rd_L2 l0 x10_1).length) = true := decide_eq_true (by omega); clear c6; generalize hji7 : (mx x5_1 (wrap64 ((wrap64 (((rd_L2 l0 x10_1).length : Int) - 1)) + (wrap64 (a1 * x10_1))))) = ji7 at H; have hji7_ : (if x5_1 < (wrap64 ((wrap64 (((rd_L2 l0 x10_1).length : Int) - 1)) + (wrap64 (a1 * x10_1)))) then (wrap64 ((wrap64 (((rd_L2 l0 x10_1).length : Int) - 1)) + (wrap64 (a1 * x10_1)))) else x5_1) = ji7 := hji7; have H' := Aside0.mk H; clear H; have p196 : 0 ≤ (x10_1 : Int) := oda; have q196 : x10_1 < (l0.length : Int) := oda; obtain ⟨ad196, A196_0, c196_0, e196, hx196_0, hl196_0, hi196_0⟩ := at_L2 HR0.out x10_1 p196 q196; cases e196
   (try replace hx196_0 := hbc hx196_0)
   have HR196_0 := Aside0.mk hi196_0; have HC196_0 := Aside0.mk hl196_0; clear hi196_0 hl196_0; replace p196 := eq_true p196; replace q196 := eq_true q196; go_wp2; go_roundg k1
   case measure => have := HK1.out; omega
   case rel => exact ⟨(ji7), (wrap64 (x10_1 + 1)), (by first | rfl | (simp; done) | (simp only [← hji7] <;> (first | rfl | simp)) | (simp [*]; done)), rs, H', ⟨by have := HK1.out; omega⟩, ⟨bel⟩⟩
  rw [if_neg c6] at H; have c6b0 : decide (0 < ((rd_L2 l0 x10_1).length : Int)) = false := decide_eq_false c6; have c6b1 : decide (0 < (rd_L2 l0 x10_1).length) = false := decide_eq_false (by omega); clear c6; have H' := Aside0.mk H; clear H; have p196 : 0 ≤ (x10_1 : Int) := oda; have q196 : x10_1 < (l0.length : Int) := oda; obtain ⟨ad196, A196_0, c196_0, e196, hx196_0, hl196_0, hi196_0⟩ := at_L2 HR0.out x10_1 p196 q196; cases e196
  (try replace hx196_0 := hbc hx196_0)
  have HR196_0 := Aside0.mk hi196_0; have HC196_0 := Aside0.mk hl196_0; clear hi196_0 hl196_0; replace p196 := eq_true p196; replace q196 := eq_true q196; go_wp2; go_roundg k1
  case measure => have := HK1.out; omega
  case rel => exact ⟨(x5_1), (wrap64 (x10_1 + 1)), rs, rs, H', ⟨by have := HK1.out; omega⟩, ⟨bel⟩⟩
 rw [if_neg c3] at H; have c3b0 : decide (x10_1 < (l0.length : Int)) = false := decide_eq_false c3; clear c3; obtain rfl := Option.some.inj H; go_wp2; go_ret; exact ⟨ren, bel⟩
def bivariate_Degree.j0 : Nat → GFd → List (List Int) → Int → Bool → Option (Int × Int)
 | 0, _, _, _, _ => none
 | k + 1, x0, x1, x2, x13 => if x13 = true then (some (0, 6)) else ((bivariate_Canon.f k x0 x1).bind fun t197 => ((bivariate_weighted.f k t197 x2).bind fun t200 => (some (t200, 0))))
def bivariate_Degree.f (k : Nat) (a0 : GFd) (l1 : List (List Int)) (a2 : Int) : Option (Int × Int) := if a2 < 0 then (bivariate_Degree.j0 k a0 l1 a2 true) else (bivariate_Degree.j0 k a0 l1 a2 (decide (a2 > 256)))
theorem bivariate_Degree.calls (k : Nat) (a0 : GFd) (A1 : Option Addr) (c1 : Nat) (l1 : List (List Int)) (a2 : Int) (r1 : Int) (r2 : Int) (w : World) (hg0 : GFd.At w a0) (hr1 : Kd.C (Kd.slice 3 (Kd.int .i64)) w A1 l1.length l1) (hc1 : l1.length ≤ c1) (h : bivariate_Degree.f k a0 l1 a2 = some (r1, r2)) :
  Calls Try.prog 33 #[.pointer (some ⟨a0.blk, 0, none⟩), .slice A1 l1.length c1, .int .i64 a2] w fun e w' => e = .returned (.tuple #[.int .i64 r1, .int .i64 r2]) ∧ Below w.heap.size w w' := by
 have HR1 := Aside0.mk hr1; have HC1 := Aside0.mk hc1; clear hr1 hc1; have HGF0 := Aside0.mk hg0; clear hg0; have HB := Aside0.mk (Below.refl w.heap.size w); have H : (if a2 < 0 then (bivariate_Degree.j0 k a0 l1 a2 true) else (bivariate_Degree.j0 k a0 l1 a2 (decide (a2 > 256)))) = some (r1, r2) := h; clear h; have HC4 := Aside0.mk H; clear H; go_enter Try.func33, Try.ntmps33; go_upto_region 1 with (fail)
 go_cut [13] (fun v13 wc => ∃ (kq : Nat) (x13_3 : Bool), v13 = .bool x13_3 ∧ Aside0 (bivariate_Degree.j0 kq a0 l1 a2 x13_3 = some (r1, r2)) ∧ Aside0 (kq ≤ k) ∧ Aside0 (Below w.heap.size w wc))
 case first =>
  have H := HC4.out; clear HC4
  by_cases c5 : a2 < 0
  ·rw [if_pos c5] at H; have c5b0 : decide (a2 < 0) = true := decide_eq_true c5; clear c5; (first | rw [c5b0] | (simp only [i64_w, i32_w]; rw [c5b0]) | skip)
   have H' := Aside0.mk H; clear H; go_wp2; go_meet
   case rel => exact ⟨_, (true), rs, H', ⟨by first | omega | exact Nat.le_refl _⟩, ⟨bel⟩⟩
  ·rw [if_neg c5] at H; have c5b0 : decide (a2 < 0) = false := decide_eq_false c5; clear c5; (first | rw [c5b0] | (simp only [i64_w, i32_w]; rw [c5b0]) | skip)
   have H' := Aside0.mk H; clear H; go_wp2; go_meet
   case rel => exact ⟨_, (decide (a2 > 256)), rs, H', ⟨by first | omega | exact Nat.le_refl _⟩, ⟨bel⟩⟩
 case rest =>
  clear HC4; obtain ⟨kq, x13_3, rfl, HA, HJ3, HB⟩ := hcut; rcases kq with _ | kj3
  ·exact absurd HA.out (by simp [bivariate_Degree.j0])
  have H := HA.out; clear HA; simp only [bivariate_Degree.j0] at H
  by_cases c6 : x13_3 = true
  ·subst c6; have H1 : (some (0, 6)) = some (r1, r2) := by rw [if_pos rfl] at H; exact H
   clear H; have H := H1; clear H1; simp only [Option.some.injEq, Prod.mk.injEq] at H; obtain ⟨rfl, rfl⟩ := H; go_wp2; go_ret2; exact ⟨ren, bel⟩
  ·replace c6 := Bool.eq_false_iff.mpr c6; subst c6; have H1 : ((bivariate_Canon.f kj3 a0 l1).bind fun t197 => ((bivariate_weighted.f kj3 t197 a2).bind fun t200 => (some (t200, 0)))) = some (r1, r2) := by rw [if_neg (show ¬ (false = true) by decide)] at H; exact H
   clear H; have H := H1; clear H1; replace H := bz H; obtain ⟨t197, A7, H⟩ := H; replace H := bz H; obtain ⟨t200, A8, H⟩ := H; simp only [Option.some.injEq, Prod.mk.injEq] at H; obtain ⟨rfl, rfl⟩ := H; go_wp2_with (first | ((with_reducible refine gate_callee (f := 27) rfl ?_); refine gl (some 16) Try.func27 #[.pointer (some ⟨a0.blk, 0, none⟩), .slice A1 l1.length c1] ?_; (with_reducible refine (bivariate_Canon.calls kj3 a0 _ _ l1 t197 _ ?side1 ?side2 ?side3 A7.out).mono ?_); (case side1 => first | exact GFd.At.below HGF0.out bel); (case side2 => exact cb HR1); (case side3 => exact HC1.out); rintro e w9 ⟨v198, rfl, ho0, hb⟩; refine ⟨_, rfl, ?_⟩; have HO199 := Aside0.mk (Kd.V_lower (Kd.V_mono (ok' := fun k_ => True) ho0 (fun k_ hk_ => trivial)) bsz); replace HB := bst hb; obtain ⟨Ao10, co10, eo10⟩ := Kd.V_slice HO199.out; subst eo10) | ((with_reducible refine gate_callee (f := 76) rfl ?_); refine gl (some 18) Try.func76 #[.slice Ao10 t197.length co10, .int .i64 a2] ?_; (with_reducible refine (bivariate_weighted.calls kj3 _ _ t197 a2 t200 _ ?side1 ?side2 A8.out).mono ?_); (case side1 => repeat (first | exact (Kd.V_reads' HO199.out).2.2 | (with_reducible refine Kd.C_alloc ?_ _) | (with_reducible refine Kd.C_drewN ?_ _) | (with_reducible refine Kd.C_drew ?_))); (case side2 => exact (Kd.V_reads' HO199.out).2.1); rintro e w11 ⟨rfl, hb⟩; refine ⟨_, rfl, ?_⟩; replace HO199 := Aside0.mk (Kd.V_below (va HO199) hb); replace HB := bst hb))
   go_ret2; exact ⟨ren, bel⟩
end Go.Proofs.Ytgjphmcofmkmfaa.G
