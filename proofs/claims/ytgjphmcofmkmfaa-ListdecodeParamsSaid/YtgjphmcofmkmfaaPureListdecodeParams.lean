/- The statement over numbers alone of ListdecodeParams: for every n, k and t the program's Params and the reference's Params give the same parameters and the same error. No condition. -/
import Derived.Test.YtgjphmcofmkmfaaPListdecodeParamsx3
namespace Go.Proofs.Ytgjphmcofmkmfaa.Pure
open Go.RowKit Go.Proofs.Ytgjphmcofmkmfaa.PListdecodeParams Go.Proofs.YtgjphmcofmkmfaaW.PrintWords Go.Proofs.YtgjphmcofmkmfaaW.PrintLast

theorem w64 {x : Int} (h : -9223372036854775808 ≤ x) (h' : x ≤ 9223372036854775807) : wrap64 x = x := by
  unfold wrap64; omega

/-- the number of terms in the columns below n -/
def S (w d : Int) : Nat → Int
  | 0 => 0
  | n + 1 => S w d n + (d - w * n + 1)

theorem S_bd {w d : Int} (hw : 1 ≤ w) (hd : 0 ≤ d) (hd' : d ≤ 4096) : ∀ j : Nat, (j : Int) ≤ d / w + 1 → 0 ≤ S w d j ∧ S w d j ≤ j * 4097
  | 0, _ => by simp [S]
  | j + 1, h => by
    obtain ⟨h1, h2⟩ := S_bd hw hd hd' j (by omega)
    have h3 : (j : Int) ≤ d / w := by omega
    have h4 : w * j ≤ d := by have := (Int.le_ediv_iff_mul_le (by omega : 0 < w)).1 h3; rwa [Int.mul_comm] at this
    have h5 : 0 ≤ w * (j : Int) := Int.mul_nonneg (by omega) (by omega)
    unfold S
    constructor <;> omega

/-- all terms up to the degree d -/
def T (w d : Int) : Int := S w d (d / w + 1).toNat

theorem div_bd {w d : Int} (hw : 1 ≤ w) (hd : 0 ≤ d) : 0 ≤ d / w ∧ d / w ≤ d := ⟨Int.ediv_nonneg hd (by omega), Int.ediv_le_self _ hd⟩

theorem S_ge {w d : Int} (hw : 1 ≤ w) (hd : 0 ≤ d) : ∀ j : Nat, 1 ≤ j → (j : Int) ≤ d / w + 1 → d + 1 ≤ S w d j
  | 0, h, _ => by omega
  | 1, _, _ => by simp [S]
  | j + 2, _, h => by
    have ih := S_ge hw hd (j + 1) (by omega) (by omega)
    have h3 : ((j + 1 : Nat) : Int) ≤ d / w := by omega
    have h4 : w * ((j + 1 : Nat) : Int) ≤ d := by have := (Int.le_ediv_iff_mul_le (by omega : 0 < w)).1 h3; rwa [Int.mul_comm] at this
    unfold S; omega

theorem T_ge {w d : Int} (hw : 1 ≤ w) (hd : 0 ≤ d) : d + 1 ≤ T w d := by
  have := div_bd hw hd
  exact S_ge hw hd _ (by omega) (by omega)

theorem terms_l {w d : Int} (hw : 1 ≤ w) (hw' : w ≤ 64) (hd : 0 ≤ d) (hd' : d ≤ 4096) : ∀ (m j : Nat), (j : Int) + m = d / w + 1 → Ev (fun k => listdecode_terms.l0 k d w (S w d j) j) (T w d)
  | 0, j, h => by
    have hb := div_bd hw hd
    have h1 : ¬ w * (j : Int) ≤ d := by
      intro h2
      have := (Int.le_ediv_iff_mul_le (c := w) (a := j) (b := d) (by omega : 0 < w)).2 (by rwa [Int.mul_comm] at h2)
      omega
    have h2 : w * (j : Int) ≤ 64 * 4097 := Int.mul_le_mul hw' (by omega) (by omega) (by omega)
    have h0 : 0 ≤ w * (j : Int) := Int.mul_nonneg (by omega) (by omega)
    refine Ev.step (f := fun _ => some (T w d)) (fun k => ?_) (Ev.now _)
    simp only [listdecode_terms.l0]
    rw [w64 (by omega) (by omega), if_neg h1, T]
    have : (d / w + 1).toNat = j := by omega
    rw [this]
  | m + 1, j, h => by
    have hb := div_bd hw hd
    have h1 : w * (j : Int) ≤ d := by
      have := (Int.le_ediv_iff_mul_le (c := w) (a := j) (b := d) (by omega : 0 < w)).1 (by omega)
      rwa [Int.mul_comm] at this
    have h0 : 0 ≤ w * (j : Int) := Int.mul_nonneg (by omega) (by omega)
    have hS := S_bd hw hd hd' j (by omega)
    refine Ev.step (fun k => ?_) (terms_l hw hw' hd hd' m (j + 1) (by omega))
    simp only [listdecode_terms.l0]
    rw [w64 (x := w * (j : Int)) (by omega) (by omega), if_pos h1, w64 (x := d - w * j) (by omega) (by omega), w64 (x := d - w * j + 1) (by omega) (by omega), w64 (x := S w d j + _) (by omega) (by omega), w64 (x := (j : Int) + 1) (by omega) (by omega)]
    rfl

theorem terms_ev {w d : Int} (hw : 1 ≤ w) (hw' : w ≤ 64) (hd : 0 ≤ d) (hd' : d ≤ 4096) : Ev (fun k => listdecode_terms.f k d w) (T w d) := by
  have hb := div_bd hw hd
  exact terms_l hw hw' hd hd' (d / w + 1).toNat 0 (by omega)

theorem Terms_l {w d : Int} (hw : 1 ≤ w) (hw' : w ≤ 64) (hd : 0 ≤ d) (hd' : d ≤ 4096) : ∀ (m j : Nat), (j : Int) + m = d / w + 1 → Ev (fun k => codewrightref40_Terms.l0 k w (d / w) d (S w d j) j) (T w d)
  | 0, j, h => by
    refine Ev.step (f := fun _ => some (T w d)) (fun k => ?_) (Ev.now _)
    simp only [codewrightref40_Terms.l0]
    rw [if_neg (by omega), T]
    have : (d / w + 1).toNat = j := by omega
    rw [this]
  | m + 1, j, h => by
    have hb := div_bd hw hd
    have h1 : w * (j : Int) ≤ d := by
      have := (Int.le_ediv_iff_mul_le (c := w) (a := j) (b := d) (by omega : 0 < w)).1 (by omega)
      rwa [Int.mul_comm] at this
    have h0 : 0 ≤ w * (j : Int) := Int.mul_nonneg (by omega) (by omega)
    have hS := S_bd hw hd hd' j (by omega)
    refine Ev.step (fun k => ?_) (Terms_l hw hw' hd hd' m (j + 1) (by omega))
    simp only [codewrightref40_Terms.l0]
    rw [if_pos (by omega : (j : Int) ≤ d / w), w64 (x := w * (j : Int)) (by omega) (by omega), w64 (x := d - w * j) (by omega) (by omega), if_pos (by omega), w64 (x := d - w * j + 1) (by omega) (by omega), w64 (x := S w d j + _) (by omega) (by omega), w64 (x := (j : Int) + 1) (by omega) (by omega)]
    rfl

theorem Terms_ev {w d : Int} (hw : 1 ≤ w) (hw' : w ≤ 64) (hd : 0 ≤ d) (hd' : d ≤ 4096) : Ev (fun k => codewrightref40_Terms.f k w (d / w) d) (T w d) := by
  have hb := div_bd hw hd
  exact Terms_l hw hw' hd hd' (d / w + 1).toNat 0 (by omega)

/-- the least degree with more terms than the cost, looked for from d on -/
def dg (cost w : Int) : Nat → Int → Int
  | 0, d => d
  | m + 1, d => if T w d ≤ cost then dg cost w m (d + 1) else d

theorem dg_bd {cost w : Int} (hw : 1 ≤ w) : ∀ (m : Nat) (d : Int), 0 ≤ d → d + m = cost + 1 → d ≤ dg cost w m d ∧ dg cost w m d ≤ cost + 1
  | 0, d, h, h' => by simp only [dg]; omega
  | m + 1, d, h, h' => by
    simp only [dg]
    split
    · have := dg_bd (cost := cost) hw m (d + 1) (by omega) (by omega); omega
    · omega

theorem degree_l {cost w : Int} (hw : 1 ≤ w) (hw' : w ≤ 64) (hc : cost ≤ 4096) : ∀ (m : Nat) (d : Int), 0 ≤ d → d ≤ cost → d + m = cost + 1 → Ev (fun k => listdecode_degree.l0 k cost w d) (dg cost w m d)
  | 0, d, h, hd, h' => by omega
  | m + 1, d, h, hd, h' => by
    by_cases hT : T w d ≤ cost
    · have hg := T_ge hw h
      refine Ev.step (f := fun k => (listdecode_terms.f k d w).bind fun t => if t ≤ cost then listdecode_degree.l0 k cost w (wrap64 (d + 1)) else some d) (fun k => rfl) ?_
      refine Ev.bind (terms_ev hw hw' h (by omega)) ?_
      simp only [if_pos hT, dg]
      rw [w64 (x := d + 1) (by omega) (by omega)]
      exact degree_l hw hw' hc m (d + 1) (by omega) (by omega) (by omega)
    · refine Ev.step (f := fun k => (listdecode_terms.f k d w).bind fun t => if t ≤ cost then listdecode_degree.l0 k cost w (wrap64 (d + 1)) else some d) (fun k => rfl) ?_
      refine Ev.bind (terms_ev hw hw' h (by omega)) ?_
      simp only [if_neg hT, dg]
      exact Ev.now _

/-- the least degree -/
def Dm (cost w : Int) : Int := dg cost w (cost + 1).toNat 0

theorem degree_ev {cost w : Int} (hw : 1 ≤ w) (hw' : w ≤ 64) (h0 : 0 ≤ cost) (hc : cost ≤ 4096) : Ev (fun k => listdecode_degree.f k cost w) (Dm cost w) :=
  degree_l hw hw' hc (cost + 1).toNat 0 (Int.le_refl 0) h0 (by omega)

theorem Dm_bd {cost w : Int} (hw : 1 ≤ w) (h0 : 0 ≤ cost) : 0 ≤ Dm cost w ∧ Dm cost w ≤ cost + 1 := by
  have := dg_bd (cost := cost) hw (cost + 1).toNat 0 (by omega) (by omega)
  exact this

/-- the weight of y -/
def wt (k : Int) : Int := if k - 1 < 1 then 1 else k - 1

/-- what n m (m + 1) / 2 comes to -/
def cost (n m : Int) : Int := n * m * (m + 1) / 2

theorem cost_bd {n m : Int} (hn : 1 ≤ n) (hn' : n ≤ 64) (hm : 1 ≤ m) (hm' : m ≤ 16) : 0 ≤ n * m ∧ n * m ≤ 1024 ∧ 0 ≤ n * m * (m + 1) ∧ n * m * (m + 1) ≤ 17408 := by
  have h1 : n * m ≤ 64 * 16 := Int.mul_le_mul hn' hm' (by omega) (by omega)
  have h0 : 0 ≤ n * m := Int.mul_nonneg (by omega) (by omega)
  have h2 : n * m * (m + 1) ≤ 1024 * 17 := Int.mul_le_mul (by omega) (by omega) (by omega) (by omega)
  exact ⟨h0, by omega, Int.mul_nonneg h0 (by omega), by omega⟩

/-- does the multiplicity m suffice -/
def suff (n k t m : Int) : Bool := decide (cost n m ≤ 4096) && decide (Dm (cost n m) (wt k) / wt k ≤ 64) && decide (m * (n - t) > Dm (cost n m) (wt k))

theorem cost_spell {n m : Int} (hn : 1 ≤ n) (hn' : n ≤ 64) (hm : 1 ≤ m) (hm' : m ≤ 16) : wrap64 (Int.tdiv (wrap64 ((wrap64 (n * m)) * (wrap64 (m + 1)))) 2) = cost n m := by
  obtain ⟨h1, h2, h3, h4⟩ := cost_bd hn hn' hm hm'
  rw [w64 (x := n * m) (by omega) (by omega), w64 (x := m + 1) (by omega) (by omega), w64 (x := n * m * (m + 1)) (by omega) (by omega), Int.tdiv_eq_ediv_of_nonneg h3, w64 (by omega) (by omega)]
  rfl

theorem cost_rng {n m : Int} (hn : 1 ≤ n) (hn' : n ≤ 64) (hm : 1 ≤ m) (hm' : m ≤ 16) : 0 ≤ cost n m ∧ cost n m ≤ 8704 := by
  obtain ⟨h1, h2, h3, h4⟩ := cost_bd hn hn' hm hm'
  unfold cost; omega

theorem wt_bd {n k : Int} (hn' : n ≤ 64) (_ : 0 ≤ k) (hk' : k ≤ n) : 1 ≤ wt k ∧ wt k ≤ 64 := by
  unfold wt; split <;> omega

theorem wt_spell {n k : Int} (hn' : n ≤ 64) (_ : 0 ≤ k) (hk' : k ≤ n) : mx (wrap64 (k - 1)) 1 = wt k := by
  rw [w64 (by omega) (by omega)]; rfl

/-- what the program's suffices gives -/
def sres (n k t m : Int) : Int × Int × Int × Bool :=
  if cost n m > 4096 then (0, 0, 0, false) else (m, Dm (cost n m) (wt k), Dm (cost n m) (wt k) / wt k, suff n k t m)

theorem suffices_ev {n k t m : Int} (hn : 1 ≤ n) (hn' : n ≤ 64) (hk : 0 ≤ k) (hk' : k ≤ n) (ht : 0 ≤ t) (ht' : t ≤ n) (hm : 1 ≤ m) (hm' : m ≤ 16) : Ev (fun f => listdecode_suffices.f f n k t m) (sres n k t m) := by
  obtain ⟨c1, c2⟩ := cost_rng hn hn' hm hm'
  obtain ⟨w1, w2⟩ := wt_bd hn' hk hk'
  unfold listdecode_suffices.f sres
  simp only [cost_spell hn hn' hm hm']
  by_cases hc : cost n m > 4096
  · simp only [if_pos hc]; exact Ev.now _
  · simp only [if_neg hc]
    simp only [listdecode_weight.f, wt_spell hn' hk hk', Option.bind_some]
    obtain ⟨d1, d2⟩ := Dm_bd (cost := cost n m) w1 c1
    obtain ⟨e1, e2⟩ := div_bd w1 d1
    refine Ev.bind (degree_ev w1 w2 c1 (by omega)) ?_
    have hmt : 0 ≤ m * (n - t) := Int.mul_nonneg (by omega) (by omega)
    have hmt' : m * (n - t) ≤ 16 * 64 := Int.mul_le_mul hm' (by omega) (by omega) (by omega)
    simp only [if_neg (show ¬ wt k = 0 by omega), Int.tdiv_eq_ediv_of_nonneg d1]
    rw [w64 (x := Dm (cost n m) (wt k) / wt k) (by omega) (by omega), w64 (x := n - t) (by omega) (by omega), w64 (x := m * (n - t)) (by omega) (by omega)]
    by_cases h64 : Dm (cost n m) (wt k) / wt k ≤ 64
    · simp only [if_pos h64, suff, decide_eq_true h64, decide_eq_true (show cost n m ≤ 4096 by omega), Bool.true_and]; exact Ev.now _
    · simp only [if_neg h64, suff, decide_eq_false h64, Bool.and_false, Bool.false_and]; exact Ev.now _

/-- the least multiplicity that suffices, from m on -/
def par (n k t : Int) : Nat → Int → Int × Int × Int × Int
  | 0, _ => (0, 0, 0, 11)
  | f + 1, m => if suff n k t m = true then (m, Dm (cost n m) (wt k), Dm (cost n m) (wt k) / wt k, 0) else par n k t f (m + 1)

theorem sres_snd (n k t m : Int) : (sres n k t m).2.2.2 = suff n k t m := by
  unfold sres
  split
  · rename_i h; simp [suff, show ¬ cost n m ≤ 4096 by omega]
  · rfl

theorem Params_l {n k t : Int} (hn : 1 ≤ n) (hn' : n ≤ 64) (hk : 0 ≤ k) (hk' : k ≤ n) (ht : 0 ≤ t) (ht' : t ≤ n) : ∀ (f : Nat) (m : Int), 1 ≤ m → m + f = 17 → Ev (fun r => listdecode_Params.l0 r n k t m) (par n k t f m)
  | 0, m, h, h' => by
    refine Ev.step (f := fun _ => some (0, 0, 0, 11)) (fun r => ?_) (Ev.now _)
    simp only [listdecode_Params.l0]; rw [if_neg (by omega)]
  | f + 1, m, h, h' => by
    refine Ev.step (f := fun r => (listdecode_suffices.f r n k t m).bind fun b => if b.2.2.2 = true then some (b.1, b.2.1, b.2.2.1, 0) else listdecode_Params.l0 r n k t (wrap64 (m + 1))) (fun r => by simp only [listdecode_Params.l0]; rw [if_pos (by omega)]) ?_
    refine Ev.bind (suffices_ev hn hn' hk hk' ht ht' h (by omega)) ?_
    simp only [sres_snd, par]
    by_cases hs : suff n k t m = true
    · simp only [hs, if_true]
      have hc : ¬ cost n m > 4096 := by
        simp only [suff, Bool.and_eq_true, decide_eq_true_eq] at hs; omega
      simp only [sres, if_neg hc]; exact Ev.now _
    · simp only [if_neg hs]
      rw [w64 (by omega) (by omega)]
      exact Params_l hn hn' hk hk' ht ht' f (m + 1) (by omega) (by omega)

/-- the parameters -/
def P (n k t : Int) : Int × Int × Int × Int :=
  if 1 ≤ n ∧ n ≤ 64 ∧ 0 ≤ k ∧ k ≤ n ∧ 0 ≤ t ∧ t ≤ n then par n k t 16 1 else (0, 0, 0, 6)

theorem Params_j (n k t : Int) (b : Bool) (h : 1 ≤ n ∧ n ≤ 64 ∧ 0 ≤ k ∧ k ≤ n ∧ 0 ≤ t ∧ t ≤ n ↔ b = false) : Ev (fun r => listdecode_Params.j0 r n k t b) (P n k t) := by
  cases b with
  | true =>
    refine Ev.step (f := fun _ => some (0, 0, 0, 6)) (fun r => by simp only [listdecode_Params.j0]; rw [if_pos trivial]) ?_
    rw [P, if_neg (by rw [h]; simp)]; exact Ev.now _
  | false =>
    have h := h.2 rfl
    obtain ⟨hn, hn', hk, hk', ht, ht'⟩ := h
    refine Ev.step (f := fun r => listdecode_Params.l0 r n k t 1) (fun r => by simp only [listdecode_Params.j0]; rw [if_neg (by simp)]) ?_
    rw [P, if_pos ⟨hn, hn', hk, hk', ht, ht'⟩]
    exact Params_l hn hn' hk hk' ht ht' 16 1 (by omega) (by omega)

theorem Params_ev (n k t : Int) : Ev (fun r => listdecode_Params.f r n k t) (P n k t) := by
  unfold listdecode_Params.f
  by_cases h1 : n < 1
  · simp only [if_pos h1]; exact Params_j n k t true (by simp; omega)
  by_cases h2 : n > 64
  · simp only [if_neg h1, if_pos h2]; exact Params_j n k t true (by simp; omega)
  by_cases h3 : k < 0
  · simp only [if_neg h1, if_neg h2, if_pos h3]; exact Params_j n k t true (by simp; omega)
  by_cases h4 : k > n
  · simp only [if_neg h1, if_neg h2, if_neg h3, if_pos h4]; exact Params_j n k t true (by simp; omega)
  by_cases h5 : t < 0
  · simp only [if_neg h1, if_neg h2, if_neg h3, if_neg h4, if_pos h5]; exact Params_j n k t true (by simp; omega)
  · simp only [if_neg h1, if_neg h2, if_neg h3, if_neg h4, if_neg h5]; exact Params_j n k t _ (by simp; omega)

theorem ref_l1 {n k t m : Int} (hn : 1 ≤ n) (hn' : n ≤ 64) (hk : 0 ≤ k) (hk' : k ≤ n) (ht : 0 ≤ t) (ht' : t ≤ n) (hm : 1 ≤ m) (hm' : m ≤ 16) (hc : cost n m ≤ 4096) (next : Int × Int × Int × Int)
    (hnext : Ev (fun r => codewrightref41_Params.l0 r n t (wt k) (m + 1)) next) : ∀ (f : Nat) (d : Int), 0 ≤ d → d ≤ cost n m → d + f = cost n m + 1 →
    Ev (fun r => codewrightref41_Params.l1 r n t (wt k) m (cost n m) d) (if dg (cost n m) (wt k) f d / wt k ≤ 64 ∧ m * (n - t) > dg (cost n m) (wt k) f d then (m, dg (cost n m) (wt k) f d, dg (cost n m) (wt k) f d / wt k, 0) else next)
  | 0, d, h, hd, h' => by omega
  | f + 1, d, h, hd, h' => by
    obtain ⟨w1, w2⟩ := wt_bd hn' hk hk'
    obtain ⟨e1, e2⟩ := div_bd w1 h
    have hmt : 0 ≤ m * (n - t) := Int.mul_nonneg (by omega) (by omega)
    have hmt' : m * (n - t) ≤ 16 * 64 := Int.mul_le_mul hm' (by omega) (by omega) (by omega)
    refine Ev.step (f := fun r => (codewrightref40_Terms.f r (wt k) (d / wt k) d).bind fun x => if x ≤ cost n m then codewrightref41_Params.l1 r n t (wt k) m (cost n m) (d + 1) else (if d / wt k ≤ 64 then (if m * (n - t) > d then some (m, d, d / wt k, 0) else codewrightref41_Params.l0 r n t (wt k) (m + 1)) else codewrightref41_Params.l0 r n t (wt k) (m + 1))) (fun r => ?_) ?_
    · simp only [codewrightref41_Params.l1]
      rw [if_neg (by omega), Int.tdiv_eq_ediv_of_nonneg h, w64 (x := d / wt k) (by omega) (by omega), w64 (x := d + 1) (by omega) (by omega), w64 (x := n - t) (by omega) (by omega), w64 (x := m * (n - t)) (by omega) (by omega), w64 (x := m + 1) (by omega) (by omega)]
    · refine Ev.bind (Terms_ev w1 w2 h (by omega)) ?_
      simp only [dg]
      by_cases hT : T (wt k) d ≤ cost n m
      · simp only [if_pos hT]
        have hg := T_ge w1 h
        exact ref_l1 hn hn' hk hk' ht ht' hm hm' hc next hnext f (d + 1) (by omega) (by omega) (by omega)
      · simp only [if_neg hT]
        by_cases h64 : d / wt k ≤ 64
        · by_cases hgt : m * (n - t) > d
          · simp only [if_pos h64, if_pos hgt, if_pos (And.intro h64 hgt)]; exact Ev.now _
          · simp only [if_pos h64, if_neg hgt, if_neg (show ¬ (d / wt k ≤ 64 ∧ m * (n - t) > d) from fun h => hgt h.2)]; exact hnext
        · simp only [if_neg h64, if_neg (show ¬ (d / wt k ≤ 64 ∧ m * (n - t) > d) from fun h => h64 h.1)]; exact hnext

theorem cost_mono {n m : Int} (hn : 1 ≤ n) (hm : 1 ≤ m) : cost n m ≤ cost n (m + 1) := by
  unfold cost
  have h : n * m * (m + 1) ≤ n * (m + 1) * (m + 1 + 1) := Int.mul_le_mul (Int.mul_le_mul_of_nonneg_left (by omega) (by omega)) (by omega) (by omega) (Int.mul_nonneg (by omega) (by omega))
  omega

theorem par_big {n k t : Int} (hn : 1 ≤ n) : ∀ (f : Nat) (m : Int), 1 ≤ m → cost n m > 4096 → par n k t f m = (0, 0, 0, 11)
  | 0, _, _, _ => rfl
  | f + 1, m, hm, h => by
    have hs : ¬ suff n k t m = true := by simp only [suff, Bool.and_eq_true, decide_eq_true_eq]; omega
    rw [par, if_neg hs]
    exact par_big hn f (m + 1) (by omega) (by have := cost_mono hn hm; omega)

theorem ref_l {n k t : Int} (hn : 1 ≤ n) (hn' : n ≤ 64) (hk : 0 ≤ k) (hk' : k ≤ n) (ht : 0 ≤ t) (ht' : t ≤ n) : ∀ (f : Nat) (m : Int), 1 ≤ m → m + f = 17 → Ev (fun r => codewrightref41_Params.l0 r n t (wt k) m) (par n k t f m)
  | 0, m, h, h' => by
    refine Ev.step (f := fun _ => some (0, 0, 0, 11)) (fun r => ?_) (Ev.now _)
    simp only [codewrightref41_Params.l0]; rw [if_neg (by omega)]
  | f + 1, m, h, h' => by
    obtain ⟨c1, c2⟩ := cost_rng hn hn' h (by omega : m ≤ 16)
    by_cases hc : cost n m > 4096
    · refine Ev.step (f := fun _ => some (0, 0, 0, 11)) (fun r => ?_) (by rw [par_big hn (f + 1) m h hc]; exact Ev.now _)
      simp only [codewrightref41_Params.l0]; rw [if_pos (by omega), cost_spell hn hn' h (by omega), if_pos hc]
    · refine Ev.step (f := fun r => codewrightref41_Params.l1 r n t (wt k) m (cost n m) 0) (fun r => ?_) ?_
      · simp only [codewrightref41_Params.l0]; rw [if_pos (by omega), cost_spell hn hn' h (by omega), if_neg hc]
      · have hx := ref_l1 hn hn' hk hk' ht ht' h (by omega) (by omega) _ (ref_l hn hn' hk hk' ht ht' f (m + 1) (by omega) (by omega)) (cost n m + 1).toNat 0 (by omega) c1 (by omega)
        have this : suff n k t m = true ↔ (Dm (cost n m) (wt k) / wt k ≤ 64 ∧ m * (n - t) > Dm (cost n m) (wt k)) := by
          simp only [suff, Bool.and_eq_true, decide_eq_true_eq]
          constructor
          · rintro ⟨⟨_, a⟩, b⟩; exact ⟨a, b⟩
          · rintro ⟨a, b⟩; exact ⟨⟨by omega, a⟩, b⟩
        have e : par n k t (f + 1) m = (if Dm (cost n m) (wt k) / wt k ≤ 64 ∧ m * (n - t) > Dm (cost n m) (wt k) then (m, Dm (cost n m) (wt k), Dm (cost n m) (wt k) / wt k, 0) else par n k t f (m + 1)) := by
          rw [par]
          by_cases hs : suff n k t m = true
          · rw [if_pos hs, if_pos (this.1 hs)]
          · rw [if_neg hs, if_neg (fun h => hs (this.2 h))]
        rw [e]; exact hx

theorem ref_j (n k t : Int) (b : Bool) (h : 1 ≤ n ∧ n ≤ 64 ∧ 0 ≤ k ∧ k ≤ n ∧ 0 ≤ t ∧ t ≤ n ↔ b = false) : Ev (fun r => codewrightref41_Params.j0 r n k t b) (P n k t) := by
  cases b with
  | true =>
    refine Ev.step (f := fun _ => some (0, 0, 0, 6)) (fun r => by simp only [codewrightref41_Params.j0]; rw [if_pos trivial]) ?_
    rw [P, if_neg (by rw [h]; simp)]; exact Ev.now _
  | false =>
    have h := h.2 rfl
    obtain ⟨hn, hn', hk, hk', ht, ht'⟩ := h
    refine Ev.step (f := fun r => codewrightref41_Params.l0 r n t (wt k) 1) (fun r => by simp only [codewrightref41_Params.j0, codewrightref41_Weight.f, wt_spell hn' hk hk']; rw [if_neg (by simp)]; rfl) ?_
    rw [P, if_pos ⟨hn, hn', hk, hk', ht, ht'⟩]
    exact ref_l hn hn' hk hk' ht ht' 16 1 (by omega) (by omega)

theorem ref_ev (n k t : Int) : Ev (fun r => codewrightref41_Params.f r n k t) (P n k t) := by
  unfold codewrightref41_Params.f
  by_cases h1 : n < 1
  · simp only [if_pos h1]; exact ref_j n k t true (by simp; omega)
  by_cases h2 : n > 64
  · simp only [if_neg h1, if_pos h2]; exact ref_j n k t true (by simp; omega)
  by_cases h3 : k < 0
  · simp only [if_neg h1, if_neg h2, if_pos h3]; exact ref_j n k t true (by simp; omega)
  by_cases h4 : k > n
  · simp only [if_neg h1, if_neg h2, if_neg h3, if_pos h4]; exact ref_j n k t true (by simp; omega)
  by_cases h5 : t < 0
  · simp only [if_neg h1, if_neg h2, if_neg h3, if_neg h4, if_pos h5]; exact ref_j n k t true (by simp; omega)
  · simp only [if_neg h1, if_neg h2, if_neg h3, if_neg h4, if_neg h5]; exact ref_j n k t _ (by simp; omega)

theorem alive_ev : Ev (fun r => codewrightlaw41_alive.f r) true := by
  refine Ev.of (k := 200) (codewrightlaw41_alive.mono) ?_
  decide +kernel

theorem ListdecodeParams : codewrightlaw41_ListdecodeParams.Pure := by
  intro n k t _ _ _
  refine Ev.rounds ?_
  unfold codewrightlaw41_ListdecodeParams.f
  refine Ev.bind alive_ev ?_
  simp only [if_true]
  refine Ev.bind (Params_ev n k t) ?_
  refine Ev.bind (ref_ev n k t) ?_
  simp only [beq_self_eq_true, Bool.and_self, if_true]
  exact Ev.now _

end Go.Proofs.Ytgjphmcofmkmfaa.Pure
