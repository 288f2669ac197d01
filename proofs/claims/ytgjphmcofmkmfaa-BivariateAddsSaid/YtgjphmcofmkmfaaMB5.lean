/- Part 5 of the proof that the statement holds: the walks of the functions that the law reaches, and the plain law. -/
import Derived.Test.YtgjphmcofmkmfaaMB4
import Derived.Test.YtgjphmcofmkmfaaRows
import Derived.ProofKit
import Derived.WalkKit
import Derived.OpenShut
import Derived.ShutString
import Derived.ChangeOld
import Derived.Below
import Derived.SizedLaws
namespace Go.Proofs.Ytgjphmcofmkmfaa.Al
set_option linter.unusedSectionVars false
class CR (R : Type) [Add R] [Mul R] [Neg R] [Zero R] [One R] : Prop where
 aa : ∀ a b c : R, a + b + c = a + (b + c)
 ac : ∀ a b : R, a + b = b + a
 az : ∀ a : R, a + 0 = a
 an : ∀ a : R, a + -a = 0
 ma : ∀ a b c : R, a * b * c = a * (b * c)
 mc : ∀ a b : R, a * b = b * a
 mo : ∀ a : R, a * 1 = a
 md : ∀ a b c : R, a * (b + c) = a * b + a * c
section ring
variable {R : Type} [Add R] [Mul R] [Neg R] [Zero R] [One R] [CR R]
theorem aa (a b c : R) : a + b + c = a + (b + c) := CR.aa a b c
theorem ac (a b : R) : a + b = b + a := CR.ac a b
theorem az (a : R) : a + 0 = a := CR.az a
theorem an (a : R) : a + -a = 0 := CR.an a
theorem ma (a b c : R) : a * b * c = a * (b * c) := CR.ma a b c
theorem mc (a b : R) : a * b = b * a := CR.mc a b
theorem mo (a : R) : a * 1 = a := CR.mo a
theorem md (a b c : R) : a * (b + c) = a * b + a * c := CR.md a b c
theorem za (a : R) : 0 + a = a := by rw [ac, az]
theorem na (a : R) : -a + a = 0 := by rw [ac, an]
theorem alc (a b c : R) : a + (b + c) = b + (a + c) := by rw [← aa, ac a b, aa]
theorem om (a : R) : 1 * a = a := by rw [mc, mo]
theorem dm (a b c : R) : (a + b) * c = a * c + b * c := by rw [mc, md, mc c a, mc c b]
theorem acl {a b c : R} (h : a + b = a + c) : b = c := by
 have := congrArg (fun z => -a + z) h
 simpa only [← aa, na, za] using this
theorem mz (a : R) : a * 0 = 0 := by
 apply acl (a := a * 0); rw [← md, az, az]
theorem zm (a : R) : 0 * a = 0 := by rw [mc, mz]
theorem neg_of {a b : R} (h : a + b = 0) : b = -a := acl (a := a) (by rw [h, an])
theorem mn (a b : R) : a * -b = -(a * b) := neg_of (by rw [← md, an, mz])
theorem nm (a b : R) : -a * b = -(a * b) := by rw [mc, mn, mc]
theorem nn (a : R) : - -a = a := (neg_of (na a)).symm
theorem nadd (a b : R) : -(a + b) = -a + -b := (neg_of (by rw [aa, alc b, an, az, an])).symm
theorem nz : -(0 : R) = 0 := (neg_of (az 0)).symm
def pw (x : R) : Nat → R
 | 0 => 1
 | n + 1 => pw x n * x
theorem pw_zero (x : R) : pw x 0 = 1 := rfl
theorem pw_succ (x : R) (n : Nat) : pw x (n + 1) = pw x n * x := rfl
theorem pw_add (x : R) (n m : Nat) : pw x (n + m) = pw x n * pw x m := by
 induction m with
 | zero => rw [Nat.add_zero, pw_zero, mo]
 | succ m ih => rw [← Nat.add_assoc, pw_succ, pw_succ, ih, ma]
theorem pw_one (n : Nat) : pw (1 : R) n = 1 := by
 induction n with
 | zero => rfl
 | succ n ih => rw [pw_succ, ih, mo]
theorem pw_pw (x : R) (n m : Nat) : pw (pw x n) m = pw x (n * m) := by
 induction m with
 | zero => rfl
 | succ m ih => rw [pw_succ, ih, Nat.mul_succ, pw_add]
theorem pw_fst (x : R) : pw x 1 = x := by rw [pw_succ, pw_zero, om]
def sm : Nat → (Nat → R) → R
 | 0, _ => 0
 | n + 1, f => sm n f + f n
theorem sm_z (f : Nat → R) : sm 0 f = 0 := rfl
theorem sm_s (n : Nat) (f : Nat → R) : sm (n + 1) f = sm n f + f n := rfl
theorem sm_congr {n : Nat} {f g : Nat → R} (h : ∀ i, i < n → f i = g i) : sm n f = sm n g := by
 induction n with
 | zero => rfl
 | succ n ih => rw [sm_s, sm_s, ih (fun i hi => h i (by omega)), h n (by omega)]
theorem sm_zero {n : Nat} {f : Nat → R} (h : ∀ i, i < n → f i = 0) : sm n f = 0 := by
 induction n with
 | zero => rfl
 | succ n ih => rw [sm_s, ih (fun i hi => h i (by omega)), h n (by omega), az]
theorem sm_add (n : Nat) (f g : Nat → R) : sm n (fun i => f i + g i) = sm n f + sm n g := by
 induction n with
 | zero => rw [sm_z, sm_z, sm_z, az]
 | succ n ih => rw [sm_s, sm_s, sm_s, ih, aa, aa, alc (sm n g)]
theorem sm_mul (a : R) (n : Nat) (f : Nat → R) : a * sm n f = sm n (fun i => a * f i) := by
 induction n with
 | zero => rw [sm_z, sm_z, mz]
 | succ n ih => rw [sm_s, sm_s, md, ih]
theorem sm_mulr (a : R) (n : Nat) (f : Nat → R) : sm n f * a = sm n (fun i => f i * a) := by
 rw [mc, sm_mul]; exact sm_congr fun i _ => mc _ _
theorem sm_front (n : Nat) (f : Nat → R) : sm (n + 1) f = f 0 + sm n (fun i => f (i + 1)) := by
 induction n with
 | zero => rw [sm_s, sm_z, sm_z, ac]
 | succ n ih => rw [sm_s, ih, sm_s, aa]
theorem sm_rev (n : Nat) (f : Nat → R) : sm (n + 1) (fun i => f (n - i)) = sm (n + 1) f := by
 induction n generalizing f with
 | zero => rfl
 | succ n ih =>
  rw [sm_front, sm_s (n + 1) f, ac, Nat.sub_zero]
  congr 1
  rw [← ih f]
  exact sm_congr fun i hi => by congr 1; omega
theorem sm_split (n m : Nat) (f : Nat → R) : sm (n + m) f = sm n f + sm m (fun i => f (n + i)) := by
 induction m with
 | zero => rw [Nat.add_zero, sm_z, az]
 | succ m ih => rw [← Nat.add_assoc, sm_s, ih, sm_s, aa]
theorem sm_ext {n m : Nat} {f : Nat → R} (h : n ≤ m) (z : ∀ i, n ≤ i → i < m → f i = 0) : sm m f = sm n f := by
 obtain ⟨k, rfl⟩ := Nat.exists_eq_add_of_le h
 rw [sm_split, sm_zero (f := fun i => f (n + i)) (fun i hi => z _ (by omega) (by omega)), az]
theorem sm_only {n j : Nat} {f : Nat → R} (hj : j < n) (z : ∀ i, i < n → i ≠ j → f i = 0) : sm n f = f j := by
 induction n with
 | zero => omega
 | succ n ih =>
  rw [sm_s]
  by_cases e : j = n
  ·subst e
   rw [sm_zero (fun i hi => z i (by omega) (by omega)), za]
  ·rw [ih (by omega) (fun i hi h => z i (by omega) h), z n (by omega) (fun h => e h.symm), az]
theorem sm_tri (n : Nat) (g : Nat → Nat → R) : sm n (fun k => sm (k + 1) (fun i => g i (k - i))) = sm n (fun i => sm (n - i) (fun j => g i j)) := by
 induction n with
 | zero => rfl
 | succ n ih =>
  rw [sm_s, ih]
  have e : sm (n + 1) (fun i => sm (n + 1 - i) (fun j => g i j)) = sm (n + 1) (fun i => sm (n - i) (fun j => g i j) + g i (n - i)) :=
   sm_congr fun i hi => by rw [show n + 1 - i = (n - i) + 1 by omega, sm_s]
  rw [e, sm_add, sm_s n (fun i => sm (n - i) (fun j => g i j)), Nat.sub_self, sm_z, az]
end ring
abbrev PS (R : Type) := Nat → R
section ps
variable {R : Type} [Add R] [Mul R] [Neg R] [Zero R] [One R] [CR R]
instance : Add (PS R) := ⟨fun f g n => f n + g n⟩
instance : Neg (PS R) := ⟨fun f n => -f n⟩
instance : Zero (PS R) := ⟨fun _ => 0⟩
instance : One (PS R) := ⟨fun n => if n = 0 then 1 else 0⟩
instance : Mul (PS R) := ⟨fun f g n => sm (n + 1) (fun i => f i * g (n - i))⟩
theorem ps_add (f g : PS R) (n : Nat) : (f + g) n = f n + g n := rfl
theorem ps_neg (f : PS R) (n : Nat) : (-f) n = -f n := rfl
theorem ps_zero (n : Nat) : (0 : PS R) n = 0 := rfl
theorem ps_one (n : Nat) : (1 : PS R) n = if n = 0 then 1 else 0 := rfl
theorem ps_mul (f g : PS R) (n : Nat) : (f * g) n = sm (n + 1) (fun i => f i * g (n - i)) := rfl
theorem ps_mc (f g : PS R) : f * g = g * f := by
 funext n
 rw [ps_mul, ps_mul, ← sm_rev]
 exact sm_congr fun i hi => by
  show f (n - i) * g (n - (n - i)) = _
  rw [show n - (n - i) = i by omega, mc]
theorem ps_ma (f g h : PS R) : f * g * h = f * (g * h) := by
 funext n
 have e1 : (f * g * h) n = sm (n + 1) (fun k => sm (k + 1) (fun i => (fun i j => f i * (g j * h (n - (i + j)))) i (k - i))) := by
  rw [ps_mul]
  exact sm_congr fun k hk => by
   rw [ps_mul, sm_mulr]
   exact sm_congr fun i hi => by
    show f i * g (k - i) * h (n - k) = f i * (g (k - i) * h (n - (i + (k - i))))
    rw [show i + (k - i) = k by omega, ma]
 refine e1.trans ((sm_tri (n + 1) (fun i j => f i * (g j * h (n - (i + j))))).trans ?_)
 rw [ps_mul]
 exact sm_congr fun i hi => by
  rw [ps_mul, sm_mul, show n + 1 - i = n - i + 1 by omega]
  exact sm_congr fun j hj => by rw [show n - (i + j) = n - i - j by omega]
instance : CR (PS R) where
 aa f g h := funext fun n => aa _ _ _
 ac f g := funext fun n => ac _ _
 az f := funext fun n => az _
 an f := funext fun n => an _
 ma := ps_ma
 mc := ps_mc
 mo f := funext fun n => by
  rw [ps_mul, sm_only (j := n) (by omega), ps_one, if_pos (by omega), mo]
  intro i hi hne
  rw [ps_one, if_neg (by omega), mz]
 md f g h := funext fun n => by
  rw [ps_add, ps_mul, ps_mul, ps_mul, ← sm_add]
  exact sm_congr fun i _ => by rw [ps_add, md]
def cn (a : R) : PS R := fun n => if n = 0 then a else 0
def mon (k : Nat) (a : R) : PS R := fun n => if n = k then a else 0
theorem mon_at (k : Nat) (a : R) (n : Nat) : mon k a n = if n = k then a else 0 := rfl
theorem cn_mon (a : R) : cn a = mon 0 a := rfl
theorem mon_mul (k : Nat) (a : R) (f : PS R) (n : Nat) : (mon k a * f) n = if k ≤ n then a * f (n - k) else 0 := by
 rw [ps_mul]
 by_cases h : k ≤ n
 ·rw [if_pos h, sm_only (j := k) (by omega), mon_at, if_pos rfl]
  intro i hi hne
  rw [mon_at, if_neg hne, zm]
 ·rw [if_neg h]
  exact sm_zero fun i hi => by rw [mon_at, if_neg (by omega), zm]
theorem mon_mon (k l : Nat) (a b : R) : mon k a * mon l b = mon (k + l) (a * b) := by
 funext n
 rw [mon_mul, mon_at, mon_at]
 by_cases h : n = k + l
 ·rw [if_pos (by omega), if_pos (by omega), if_pos h]
 ·rw [if_neg h]
  by_cases h2 : k ≤ n
  ·rw [if_pos h2, if_neg (by omega), mz]
  ·rw [if_neg h2]
theorem cn_one : cn (1 : R) = 1 := rfl
theorem mon_neg (k : Nat) (a : R) : mon k (-a) = -mon k a := by
 funext n; rw [ps_neg, mon_at, mon_at]; split
 ·rfl
 ·rw [nz]
def Bd (f : PS R) (n : Nat) : Prop := ∀ i, n ≤ i → f i = 0
theorem Bd.mono {f : PS R} {n m : Nat} (h : Bd f n) (hm : n ≤ m) : Bd f m := fun i hi => h i (by omega)
theorem Bd.add {f g : PS R} {n : Nat} (hf : Bd f n) (hg : Bd g n) : Bd (f + g) n := fun i hi => by rw [ps_add, hf i hi, hg i hi, az]
theorem Bd.neg {f : PS R} {n : Nat} (hf : Bd f n) : Bd (-f) n := fun i hi => by rw [ps_neg, hf i hi, nz]
theorem Bd.zero (n : Nat) : Bd (0 : PS R) n := fun _ _ => rfl
theorem Bd.mon (k : Nat) (a : R) : Bd (mon k a) (k + 1) := fun i hi => by rw [mon_at, if_neg (by omega)]
theorem Bd.mul {f g : PS R} {n m : Nat} (hf : Bd f n) (hg : Bd g m) : Bd (f * g) (n + m - 1) := fun k hk => by
 rw [ps_mul]
 exact sm_zero fun i hi => by
  by_cases h : i < n
  ·by_cases h2 : k - i < m
   ·omega
   ·rw [hg (k - i) (by omega), mz]
  ·rw [hf i (by omega), zm]
theorem Bd.all {f : PS R} (h : Bd f 0) : f = 0 := funext fun i => h i (Nat.zero_le _)
def ev (n : Nat) (f : PS R) (x : R) : R := sm n (fun i => f i * pw x i)
end ps
end Go.Proofs.Ytgjphmcofmkmfaa.Al
namespace Go.Proofs.Ytgjphmcofmkmfaa.Al
instance : CR Int where
 aa := Int.add_assoc
 ac := Int.add_comm
 az := Int.add_zero
 an := Int.add_right_neg
 ma := Int.mul_assoc
 mc := Int.mul_comm
 mo := Int.mul_one
 md := Int.mul_add
theorem dvd_sm {p : Int} {n : Nat} {f : Nat → Int} (h : ∀ i, i < n → p ∣ f i) : p ∣ sm n f := by
 induction n with
 | zero => exact Int.dvd_zero p
 | succ n ih => exact Int.dvd_add (ih fun i hi => h i (by omega)) (h n (by omega))
structure Rp where
 p : Int
 m : Nat
 low : Nat → Int
 p2 : 2 ≤ p
 m1 : 1 ≤ m
namespace Rp
variable (K : Rp)
def lw : PS Int := fun i => if i < K.m then K.low i else 0
def mp : PS Int := mon K.m 1 + K.lw
theorem bd_lw : Bd K.lw K.m := fun i hi => by unfold lw; rw [if_neg (by omega)]
def Cg (a b : PS Int) : Prop := ∃ u : PS Int, (∃ n, Bd u n) ∧ ∀ i, K.p ∣ a i + -b i + -((K.mp * u) i)
theorem cg_mod {a b : PS Int} (h : ∀ i, K.p ∣ a i + -b i) : K.Cg a b := ⟨0, ⟨0, Bd.zero 0⟩, fun i => by
 rw [mz, ps_zero, nz, az]; exact h i⟩
theorem cg_refl (a : PS Int) : K.Cg a a := K.cg_mod fun i => by rw [an]; exact Int.dvd_zero _
theorem cg_symm {a b : PS Int} (h : K.Cg a b) : K.Cg b a := by
 obtain ⟨u, ⟨n, hn⟩, h⟩ := h
 refine ⟨-u, ⟨n, hn.neg⟩, fun i => ?_⟩
 have := Int.dvd_neg.mpr (h i)
 rw [nadd, nadd, nn, nn] at this
 rw [mn, ps_neg, nn, ac (b i)]; exact this
theorem cg_trans {a b c : PS Int} (h : K.Cg a b) (h' : K.Cg b c) : K.Cg a c := by
 obtain ⟨u, ⟨n, hn⟩, h⟩ := h
 obtain ⟨v, ⟨k, hk⟩, h'⟩ := h'
 refine ⟨u + v, ⟨n + k, (hn.mono (by omega)).add (hk.mono (by omega))⟩, fun i => ?_⟩
 have := Int.dvd_add (h i) (h' i)
 rw [md, ps_add]
 have e : a i + -c i + -((K.mp * u) i + (K.mp * v) i) = a i + -b i + -(K.mp * u) i + (b i + -c i + -(K.mp * v) i) := by
  generalize a i = a, b i = b, c i = c, (K.mp * u) i = x, (K.mp * v) i = y
  omega
 rw [e]; exact this
theorem cg_add {a b c d : PS Int} (h : K.Cg a b) (h' : K.Cg c d) : K.Cg (a + c) (b + d) := by
 obtain ⟨u, ⟨n, hn⟩, h⟩ := h
 obtain ⟨v, ⟨k, hk⟩, h'⟩ := h'
 refine ⟨u + v, ⟨n + k, (hn.mono (by omega)).add (hk.mono (by omega))⟩, fun i => ?_⟩
 have := Int.dvd_add (h i) (h' i)
 rw [md, ps_add, ps_add, ps_add]
 have e : a i + c i + -(b i + d i) + -((K.mp * u) i + (K.mp * v) i) = a i + -b i + -(K.mp * u) i + (c i + -d i + -(K.mp * v) i) := by
  generalize a i = a, b i = b, c i = c, d i = d, (K.mp * u) i = x, (K.mp * v) i = y
  omega
 rw [e]; exact this
theorem cg_neg {a b : PS Int} (h : K.Cg a b) : K.Cg (-a) (-b) := by
 obtain ⟨u, ⟨n, hn⟩, h⟩ := h
 refine ⟨-u, ⟨n, hn.neg⟩, fun i => ?_⟩
 have := Int.dvd_neg.mpr (h i)
 rw [nadd, nadd] at this
 rw [mn, ps_neg, ps_neg, ps_neg]; exact this
theorem cg_mulr {a b : PS Int} (h : K.Cg a b) {c : PS Int} {k : Nat} (hc : Bd c k) : K.Cg (a * c) (b * c) := by
 obtain ⟨u, ⟨n, hn⟩, h⟩ := h
 refine ⟨u * c, ⟨_, hn.mul hc⟩, fun i => ?_⟩
 have e : (a * c) i + -(b * c) i + -(K.mp * (u * c)) i = ((a + -b + -(K.mp * u)) * c) i := by
  rw [dm, dm, nm, nm, ma, ps_add, ps_add, ps_neg, ps_neg]
 rw [e, ps_mul]
 exact dvd_sm fun j _ => Int.dvd_trans (h j) (Int.dvd_mul_right _ _)
theorem cg_mull {a b : PS Int} (h : K.Cg a b) {c : PS Int} {k : Nat} (hc : Bd c k) : K.Cg (c * a) (c * b) := by
 rw [mc c a, mc c b]; exact K.cg_mulr h hc
theorem cg_mp {u : PS Int} {n : Nat} (h : Bd u n) : K.Cg (K.mp * u) 0 := ⟨u, ⟨n, h⟩, fun i => by
 rw [ps_zero, nz, az, an]; exact Int.dvd_zero _⟩
theorem mp_at (u : PS Int) (k : Nat) : (K.mp * u) (k + K.m) = u k + (K.lw * u) (k + K.m) := by
 unfold mp
 rw [dm, ps_add, mon_mul, if_pos (by omega), om, Nat.add_sub_cancel]
theorem cg_unique {a b : PS Int} (ha : Bd a K.m) (hb : Bd b K.m) (h : K.Cg a b) (i : Nat) : K.p ∣ a i + -b i := by
 obtain ⟨u, ⟨n, hn⟩, h⟩ := h
 have hu : ∀ t k, n ≤ k + t → K.p ∣ u k := by
  intro t
  induction t with
  | zero => intro k hk; rw [hn k (by omega)]; exact Int.dvd_zero _
  | succ t ih =>
   intro k hk
   have h1 := h (k + K.m)
   rw [ha _ (by omega), hb _ (by omega), nz, az, za, mp_at] at h1
   have h2 : K.p ∣ (K.lw * u) (k + K.m) := by
    rw [ps_mul]
    exact dvd_sm fun j hj => by
     by_cases c : j < K.m
     ·exact Int.dvd_trans (ih (k + K.m - j) (by omega)) (Int.dvd_mul_left _ _)
     ·rw [K.bd_lw j (by omega), zm]; exact Int.dvd_zero _
   have h3 := Int.dvd_neg.mpr h1
   rw [nn] at h3
   exact (Int.dvd_iff_dvd_of_dvd_add h3).mpr h2
 have h0 : K.p ∣ (K.mp * u) i := by
  rw [ps_mul]
  exact dvd_sm fun j _ => Int.dvd_trans (hu n _ (by omega)) (Int.dvd_mul_left _ _)
 have := Int.dvd_add (h i) h0
 rw [aa, na, az] at this
 exact this
theorem cg_res : ∀ (n : Nat) (c : PS Int), Bd c n → ∃ r, Bd r K.m ∧ K.Cg c r
 | 0, c, h => ⟨c, h.mono (by omega), K.cg_refl c⟩
 | n + 1, c, h => by
  by_cases hm : n < K.m
  ·exact ⟨c, h.mono (by omega), K.cg_refl c⟩
  ·have hb : Bd (c + -(K.mp * mon (n - K.m) (c n))) n := fun i hi => by
    rw [ps_add, ps_neg]
    obtain ⟨k, rfl⟩ : ∃ k, i = k + K.m := ⟨i - K.m, by omega⟩
    have e1 : (K.lw * mon (n - K.m) (c n)) (k + K.m) = 0 := by
     rw [mc, mon_mul]
     split
     ·rw [K.bd_lw _ (by omega), mz]
     ·rfl
    rw [mp_at, mon_at, e1, az]
    by_cases e : k + K.m = n
    ·rw [if_pos (by omega), e, an]
    ·rw [if_neg (by omega), h _ (by omega), nz, az]
   obtain ⟨r, hr, hc⟩ := cg_res n _ hb
   refine ⟨r, hr, K.cg_trans ?_ hc⟩
   have h1 := K.cg_add (K.cg_refl c) (K.cg_neg (K.cg_mp (Bd.mon (n - K.m) (c n))))
   rw [nz, az] at h1
   exact K.cg_symm h1
def q : Int := K.p ^ K.m
theorem pp (n : Nat) : 0 < K.p ^ n := Int.pow_pos (by have := K.p2; omega)
def dig (x : Int) : PS Int := fun i => if i < K.m then x / K.p ^ i % K.p else 0
theorem bd_dig (x : Int) : Bd (K.dig x) K.m := fun i hi => by unfold dig; rw [if_neg (by omega)]
theorem dig_nonneg (x : Int) (i : Nat) : 0 ≤ K.dig x i := by
 unfold dig; split
 ·exact Int.emod_nonneg _ (by have := K.p2; omega)
 ·exact Int.le_refl _
theorem dig_lt (x : Int) (i : Nat) : K.dig x i < K.p := by
 unfold dig; have := K.p2; split
 ·exact Int.emod_lt_of_pos _ (by omega)
 ·omega
def vl (n : Nat) (v : PS Int) : Int := sm n (fun i => v i * K.p ^ i)
theorem vl_lt {v : PS Int} (h0 : ∀ i, 0 ≤ v i) (h1 : ∀ i, v i < K.p) : ∀ n, 0 ≤ K.vl n v ∧ K.vl n v < K.p ^ n
 | 0 => by simp [vl, sm_z]
 | n + 1 => by
  obtain ⟨a, b⟩ := vl_lt h0 h1 n
  have e : K.vl (n + 1) v = K.vl n v + v n * K.p ^ n := rfl
  have h2 := Int.mul_nonneg (h0 n) (Int.le_of_lt (K.pp n))
  have h3 := Int.mul_le_mul_of_nonneg_right (show v n ≤ K.p - 1 by have := h1 n; omega) (Int.le_of_lt (K.pp n))
  rw [Int.sub_mul, Int.one_mul] at h3
  rw [e, Int.pow_succ, Int.mul_comm (K.p ^ n)]
  omega
theorem vl_dig {x : Int} (hx : 0 ≤ x) : ∀ n, n ≤ K.m → K.vl n (K.dig x) = x % K.p ^ n
 | 0, _ => by simp [vl, sm_z, Int.emod_one]
 | n + 1, h => by
  have e : K.vl (n + 1) (K.dig x) = K.vl n (K.dig x) + K.dig x n * K.p ^ n := rfl
  rw [e, vl_dig hx n (by omega)]
  have e2 : K.dig x n = x / K.p ^ n % K.p := if_pos (by omega)
  rw [e2, Int.pow_succ, Int.emod_def x (K.p ^ n * K.p), ← Int.ediv_ediv_of_nonneg (Int.le_of_lt (K.pp n)), Int.emod_def (x / K.p ^ n), Int.emod_def x (K.p ^ n), Int.sub_mul, Int.mul_comm (x / K.p ^ n), Int.mul_comm (K.p * _), ← Int.mul_assoc]
  omega
theorem vl_self {x : Int} (h0 : 0 ≤ x) (h1 : x < K.q) : K.vl K.m (K.dig x) = x := by
 rw [K.vl_dig h0 K.m (Nat.le_refl _)]; exact Int.emod_eq_of_lt h0 h1
theorem dig_inj {x y : Int} (hx : 0 ≤ x) (hx1 : x < K.q) (hy : 0 ≤ y) (hy1 : y < K.q) (h : K.Cg (K.dig x) (K.dig y)) : x = y := by
 rw [← K.vl_self hx hx1, ← K.vl_self hy hy1]
 congr 1
 funext i
 have h1 := K.cg_unique (K.bd_dig x) (K.bd_dig y) h i
 have := K.dig_nonneg x i
 have := K.dig_nonneg y i
 have := K.dig_lt x i
 have := K.dig_lt y i
 obtain ⟨t, ht⟩ := h1
 have hp := K.p2
 rcases Int.lt_trichotomy t 0 with c | c | c
 ·have := Int.mul_le_mul_of_nonneg_left (show t ≤ -1 by omega) (show 0 ≤ K.p by omega)
  omega
 ·subst c; omega
 ·have := Int.mul_le_mul_of_nonneg_left (show 1 ≤ t by omega) (show 0 ≤ K.p by omega)
  omega
theorem vl_div {v : PS Int} (h0 : ∀ i, 0 ≤ v i) (h1 : ∀ i, v i < K.p) : ∀ n i, i < n → K.vl n v / K.p ^ i % K.p = v i
 | 0, i, h => by omega
 | n + 1, i, h => by
  have e : K.vl (n + 1) v = K.vl n v + v n * K.p ^ n := rfl
  obtain ⟨a, b⟩ := K.vl_lt h0 h1 n
  rw [e]
  by_cases c : i = n
  ·subst c
   rw [Int.add_mul_ediv_right _ _ (by have := K.pp i; omega), Int.ediv_eq_zero_of_lt a b, Int.zero_add, Int.emod_eq_of_lt (h0 _) (h1 _)]
  ·obtain ⟨k, rfl⟩ : ∃ k, n = i + (k + 1) := ⟨n - i - 1, by omega⟩
   rw [Int.pow_add, Int.mul_comm (K.p ^ i), ← Int.mul_assoc, Int.add_mul_ediv_right _ _ (by have := K.pp i; omega), Int.pow_succ, ← Int.mul_assoc, Int.add_mul_emod_self_right]
   exact vl_div h0 h1 _ i (by omega)
theorem dig_vl {v : PS Int} (h0 : ∀ i, 0 ≤ v i) (h1 : ∀ i, v i < K.p) (i : Nat) (hi : i < K.m) : K.dig (K.vl K.m v) i = v i := by
 unfold dig; rw [if_pos hi]; exact K.vl_div h0 h1 _ i hi
def el (v : PS Int) : Int := K.vl K.m (fun i => v i % K.p)
theorem el_nonneg (v : PS Int) : 0 ≤ K.el v := (K.vl_lt (fun i => Int.emod_nonneg _ (by have := K.p2; omega)) (fun i => Int.emod_lt_of_pos _ (by have := K.p2; omega)) _).1
theorem el_lt (v : PS Int) : K.el v < K.q := (K.vl_lt (fun i => Int.emod_nonneg _ (by have := K.p2; omega)) (fun i => Int.emod_lt_of_pos _ (by have := K.p2; omega)) _).2
theorem el_cg {v : PS Int} (h : Bd v K.m) : K.Cg (K.dig (K.el v)) v := K.cg_mod fun i => by
 by_cases c : i < K.m
 ·unfold el
  rw [K.dig_vl (fun i => Int.emod_nonneg _ (by have := K.p2; omega)) (fun i => Int.emod_lt_of_pos _ (by have := K.p2; omega)) i c]
  have := Int.emod_add_mul_ediv (v i) K.p
  exact ⟨-(v i / K.p), by rw [Int.mul_neg]; omega⟩
 ·rw [K.bd_dig _ i (by omega), h i (by omega)]; exact ⟨0, by simp⟩
def E := { x : Int // 0 ≤ x ∧ x < K.q }
variable {K}
theorem exE {v : PS Int} {n : Nat} (h : Bd v n) : ∃ z : K.E, K.Cg (K.dig z.1) v := by
 obtain ⟨r, hr, hc⟩ := K.cg_res n v h
 exact ⟨⟨K.el r, K.el_nonneg r, K.el_lt r⟩, K.cg_trans (K.el_cg hr) (K.cg_symm hc)⟩
theorem E.ext {x y : K.E} (h : K.Cg (K.dig x.1) (K.dig y.1)) : x = y := Subtype.ext (K.dig_inj x.2.1 x.2.2 y.2.1 y.2.2 h)
theorem q_gt : 1 < K.q := by
 have h := K.p2
 have := K.m1
 unfold q
 obtain ⟨k, hk⟩ : ∃ k, K.m = k + 1 := ⟨K.m - 1, by omega⟩
 rw [hk, Int.pow_succ]
 have := Int.mul_le_mul_of_nonneg_right (show 1 ≤ K.p ^ k by have := K.pp k; omega) (show 0 ≤ K.p by omega)
 omega
noncomputable instance : Add K.E := ⟨fun x y => Classical.choose (exE ((K.bd_dig x.1).add (K.bd_dig y.1)))⟩
noncomputable instance : Neg K.E := ⟨fun x => Classical.choose (exE (K.bd_dig x.1).neg)⟩
noncomputable instance : Mul K.E := ⟨fun x y => Classical.choose (exE ((K.bd_dig x.1).mul (K.bd_dig y.1)))⟩
instance : Zero K.E := ⟨⟨0, Int.le_refl _, by have := @q_gt K; omega⟩⟩
instance : One K.E := ⟨⟨1, by omega, q_gt⟩⟩
theorem add_cg (x y : K.E) : K.Cg (K.dig (x + y).1) (K.dig x.1 + K.dig y.1) := Classical.choose_spec (exE ((K.bd_dig x.1).add (K.bd_dig y.1)))
theorem neg_cg (x : K.E) : K.Cg (K.dig (-x).1) (-K.dig x.1) := Classical.choose_spec (exE (K.bd_dig x.1).neg)
theorem mul_cg (x y : K.E) : K.Cg (K.dig (x * y).1) (K.dig x.1 * K.dig y.1) := Classical.choose_spec (exE ((K.bd_dig x.1).mul (K.bd_dig y.1)))
theorem dig_zero : K.dig 0 = 0 := by
 funext i; unfold dig; split
 ·rw [Int.zero_ediv, Int.zero_emod]; rfl
 ·rfl
theorem zero_val : (0 : K.E).1 = 0 := rfl
theorem one_val : (1 : K.E).1 = 1 := rfl
theorem dig_one : K.dig 1 = 1 := by
 funext i; unfold dig; rw [ps_one]
 have := K.p2
 have := K.m1
 by_cases c : i = 0
 ·subst c; rw [if_pos (by omega), if_pos rfl, Int.pow_zero, Int.ediv_one, Int.emod_eq_of_lt (by omega) (by omega)]
 ·rw [if_neg c]; split
  ·have h : 1 < K.p ^ i := by
    obtain ⟨k, hk⟩ : ∃ k, i = k + 1 := ⟨i - 1, by omega⟩
    rw [hk, Int.pow_succ]
    have := Int.mul_le_mul_of_nonneg_right (show 1 ≤ K.p ^ k by have := K.pp k; omega) (show 0 ≤ K.p by omega)
    omega
   rw [Int.ediv_eq_zero_of_lt (by omega) h, Int.zero_emod]
  ·rfl
noncomputable instance : CR K.E where
 aa a b c := E.ext (K.cg_trans (add_cg _ _) (K.cg_trans (K.cg_add (add_cg a b) (K.cg_refl _)) (by
  rw [aa]; exact K.cg_symm (K.cg_trans (add_cg _ _) (K.cg_add (K.cg_refl _) (add_cg b c))))))
 ac a b := E.ext (K.cg_trans (add_cg _ _) (by rw [ac]; exact K.cg_symm (add_cg _ _)))
 az a := E.ext (K.cg_trans (add_cg _ _) (by rw [zero_val, dig_zero, az]; exact K.cg_refl _))
 an a := E.ext (K.cg_trans (add_cg _ _) (K.cg_trans (K.cg_add (K.cg_refl _) (neg_cg a)) (by rw [an, zero_val, dig_zero]; exact K.cg_refl _)))
 ma a b c := E.ext (K.cg_trans (mul_cg _ _) (K.cg_trans (K.cg_mulr (mul_cg a b) (K.bd_dig _)) (by
  rw [ma]; exact K.cg_symm (K.cg_trans (mul_cg _ _) (K.cg_mull (mul_cg b c) (K.bd_dig _))))))
 mc a b := E.ext (K.cg_trans (mul_cg _ _) (by rw [mc]; exact K.cg_symm (mul_cg _ _)))
 mo a := E.ext (K.cg_trans (mul_cg _ _) (by rw [one_val, dig_one, mo]; exact K.cg_refl _))
 md a b c := E.ext (K.cg_trans (mul_cg _ _) (K.cg_trans (K.cg_mull (add_cg b c) (K.bd_dig _)) (by
  rw [md]; exact K.cg_symm (K.cg_trans (add_cg _ _) (K.cg_add (mul_cg a b) (mul_cg a c))))))
end Rp
end Go.Proofs.Ytgjphmcofmkmfaa.Al
namespace Go.Proofs.Ytgjphmcofmkmfaa.Al
namespace Rp
variable {K : Rp}
theorem E.val_inj {x y : K.E} (h : x.1 = y.1) : x = y := Subtype.ext h
theorem val_of_cg {x : Int} (h0 : 0 ≤ x) (h1 : x < K.q) {z : K.E} (h : K.Cg (K.dig x) (K.dig z.1)) : x = z.1 := K.dig_inj h0 h1 z.2.1 z.2.2 h
theorem add_el (x y : K.E) : (x + y).1 = K.el (K.dig x.1 + K.dig y.1) :=
 (val_of_cg (K.el_nonneg _) (K.el_lt _) (K.cg_trans (K.el_cg ((K.bd_dig _).add (K.bd_dig _))) (K.cg_symm (add_cg x y)))).symm
theorem neg_el (x : K.E) : (-x).1 = K.el (-K.dig x.1) :=
 (val_of_cg (K.el_nonneg _) (K.el_lt _) (K.cg_trans (K.el_cg (K.bd_dig _).neg) (K.cg_symm (neg_cg x)))).symm
theorem mul_el {x y : K.E} {v : PS Int} (hv : Bd v K.m) (h : K.Cg v (K.dig x.1 * K.dig y.1)) : (x * y).1 = K.el v :=
 (val_of_cg (K.el_nonneg _) (K.el_lt _) (K.cg_trans (K.el_cg hv) (K.cg_trans h (K.cg_symm (mul_cg x y))))).symm
theorem div_pow_succ (x p : Int) (hp : 0 ≤ p) (i : Nat) : x / p / p ^ i = x / p ^ (i + 1) := by
 rw [Int.pow_succ, Int.mul_comm (p ^ i), Int.ediv_ediv_of_nonneg hp]
def inn (K : Rp) (x : Int) : Int := if 0 ≤ x ∧ x < K.q then x else 0
theorem inn_bd (x : Int) : 0 ≤ K.inn x ∧ K.inn x < K.q := by
 unfold inn; split
 ·assumption
 ·exact ⟨Int.le_refl _, by have := @q_gt K; omega⟩
def inE (K : Rp) (x : Int) : K.E := ⟨K.inn x, inn_bd x⟩
theorem inn_of {x : Int} (h0 : 0 ≤ x) (h1 : x < K.q) : K.inn x = x := if_pos ⟨h0, h1⟩
theorem inn_inn (x : Int) : K.inn (K.inn x) = K.inn x := inn_of (inn_bd x).1 (inn_bd x).2
theorem inE_of (z : K.E) : K.inE z.1 = z := E.val_inj (inn_of z.2.1 z.2.2)
theorem inn_zero : K.inn 0 = 0 := by unfold inn; split <;> rfl
theorem inE_zero : K.inE 0 = 0 := E.val_inj inn_zero
theorem inE_one : K.inE 1 = 1 := E.val_inj (inn_of (by omega) q_gt)
theorem inE_z {x : Int} : K.inE x = 0 ↔ K.inn x = 0 := ⟨fun h => congrArg Subtype.val h, fun h => E.val_inj h⟩
def pl (K : Rp) (l : List Int) : PS K.E := fun i => K.inE (l.getD i 0)
theorem bd_pl (l : List Int) : Bd (K.pl l) l.length := fun i hi => by
 unfold pl; rw [List.getD_eq_getElem?_getD, List.getElem?_eq_none hi]; exact inE_zero
def Cano (K : Rp) (l : List Int) : Prop := (∀ x ∈ l, 0 ≤ x ∧ x < K.q) ∧ (l ≠ [] → l.getD (l.length - 1) 0 ≠ 0)
theorem cano_nil : K.Cano [] := ⟨fun _ h => absurd h List.not_mem_nil, fun h => absurd rfl h⟩
theorem cano_at {l : List Int} (h : ∀ x ∈ l, 0 ≤ x ∧ x < K.q) (i : Nat) : 0 ≤ l.getD i 0 ∧ l.getD i 0 < K.q := by
 rw [List.getD_eq_getElem?_getD]
 cases e : l[i]? with
 | none => exact ⟨Int.le_refl _, by have := @q_gt K; show (0 : Int) < K.q; omega⟩
 | some x => exact h x (List.mem_of_getElem? e)
theorem pl_val {l : List Int} (h : ∀ x ∈ l, 0 ≤ x ∧ x < K.q) (i : Nat) : (K.pl l i).1 = l.getD i 0 := inn_of (cano_at h i).1 (cano_at h i).2
theorem cano_len {l : List Int} (h : K.Cano l) {n : Nat} (hb : Bd (K.pl l) n) : l.length ≤ n := by
 refine Nat.le_of_not_lt fun c => ?_
 have hn : l ≠ [] := by intro e; subst e; simp at c
 apply h.2 hn
 have := congrArg Subtype.val (hb (l.length - 1) (by omega))
 rw [pl_val h.1] at this
 exact this
theorem cano_unique {l l' : List Int} (h : K.Cano l) (h' : K.Cano l') (e : K.pl l = K.pl l') : l = l' := by
 have h1 : l.length ≤ l'.length := cano_len h (e ▸ bd_pl l')
 have h2 : l'.length ≤ l.length := cano_len h' (e ▸ bd_pl l)
 apply List.ext_getElem (by omega)
 intro i hi hi'
 have := congrArg Subtype.val (congrFun e i)
 rw [pl_val h.1, pl_val h'.1] at this
 rw [List.getD_eq_getElem?_getD, List.getD_eq_getElem?_getD, List.getElem?_eq_getElem hi, List.getElem?_eq_getElem hi'] at this
 exact this
def bl (K : Rp) (p : List (List Int)) : PS (PS K.E) := fun j => K.pl (p.getD j [])
theorem pl_nil : K.pl [] = 0 := (bd_pl ([] : List Int)).all
theorem bd_bl (p : List (List Int)) : Bd (K.bl p) p.length := fun i hi => by
 unfold bl; rw [List.getD_eq_getElem?_getD, List.getElem?_eq_none hi]; exact pl_nil
def BCano (K : Rp) (p : List (List Int)) : Prop := (∀ c ∈ p, K.Cano c) ∧ (p ≠ [] → p.getD (p.length - 1) [] ≠ [])
theorem cano_zero {l : List Int} (h : K.Cano l) (e : K.pl l = 0) : l = [] := cano_unique h cano_nil (e.trans pl_nil.symm)
theorem bcano_at {p : List (List Int)} (h : ∀ c ∈ p, K.Cano c) (i : Nat) : K.Cano (p.getD i []) := by
 rw [List.getD_eq_getElem?_getD]
 cases e : p[i]? with
 | none => exact cano_nil
 | some x => exact h x (List.mem_of_getElem? e)
theorem bcano_len {p : List (List Int)} (h : K.BCano p) {n : Nat} (hb : Bd (K.bl p) n) : p.length ≤ n := by
 refine Nat.le_of_not_lt fun c => ?_
 have hn : p ≠ [] := by intro e; subst e; simp at c
 exact h.2 hn (cano_zero (bcano_at h.1 _) (hb (p.length - 1) (by omega)))
theorem bcano_unique {p p' : List (List Int)} (h : K.BCano p) (h' : K.BCano p') (e : K.bl p = K.bl p') : p = p' := by
 have h1 : p.length ≤ p'.length := bcano_len h (e ▸ bd_bl p')
 have h2 : p'.length ≤ p.length := bcano_len h' (e ▸ bd_bl p)
 apply List.ext_getElem (by omega)
 intro i hi hi'
 have := cano_unique (bcano_at h.1 i) (bcano_at h'.1 i) (congrFun e i)
 rw [List.getD_eq_getElem?_getD, List.getD_eq_getElem?_getD, List.getElem?_eq_getElem hi, List.getElem?_eq_getElem hi'] at this
 exact this
end Rp
end Go.Proofs.Ytgjphmcofmkmfaa.Al
namespace Go.Proofs.Ytgjphmcofmkmfaa.Al
section bi
variable {R : Type} [Add R] [Mul R] [Neg R] [Zero R] [One R] [CR R]
def Dom (R : Type) [Add R] [Mul R] [Neg R] [Zero R] [One R] [CR R] : Prop := ∀ a b : R, a * b = 0 → a = 0 ∨ b = 0
end bi
end Go.Proofs.Ytgjphmcofmkmfaa.Al
namespace Go.Proofs.Ytgjphmcofmkmfaa.G
open Go.RowKit Go.Proofs.YtgjphmcofmkmfaaW.PrintWords Go.Proofs.YtgjphmcofmkmfaaW.PrintLast Go.Proofs.YtgjphmcofmkmfaaW.PrintMore
open Go.Proofs.Ytgjphmcofmkmfaa.Al
structure Fd (a : GFd) (K : Rp) : Prop where
 q : a.q = K.q
 q256 : a.q ≤ 256
 add : ∀ x y, a.add x y = (K.inE x + K.inE y).1
 mul : ∀ x y, a.mul x y = (K.inE x * K.inE y).1
 neg : ∀ x, a.neg x = (-K.inE x).1
 dom : Dom K.E
theorem loopE {σ γ : Type} {G : Nat → σ → Int → Option γ} {n : Nat} {Inv : Nat → σ → Prop} {Q : γ → Prop}
  (step : ∀ i s, i < n → Inv i s → ∃ s', Inv (i + 1) s' ∧ ∀ r, Ev (fun k => G k s' ((i + 1 : Nat) : Int)) r → Ev (fun k => G k s (i : Int)) r)
  (stop : ∀ s, Inv n s → ∃ r, Ev (fun k => G k s (n : Int)) r ∧ Q r) : ∀ m i s, i + m = n → Inv i s → ∃ r, Ev (fun k => G k s (i : Int)) r ∧ Q r
 | 0, i, s, e, h => by
  have : i = n := by omega
  subst this
  exact stop s h
 | m + 1, i, s, e, h => by
  obtain ⟨s', h', hs⟩ := step i s (by omega) h
  obtain ⟨r, hr, hq⟩ := loopE step stop m (i + 1) s' (by omega) h'
  exact ⟨r, hs r hr, hq⟩
theorem w1 {i : Nat} (h : i ≤ 4611686018427387904) : wrap64 ((i : Int) + 1) = ((i + 1 : Nat) : Int) := by rw [w64 (by omega) (by omega)]; omega
theorem rd_nat (l : List Int) (i : Nat) : rd l (i : Int) = l.getD i 0 := by unfold rd; rw [Int.toNat_natCast]
theorem rd2_nat (l : List (List Int)) (i : Nat) : rd_L2 l (i : Int) = l.getD i [] := by first | rfl | (unfold rd_L2; rw [Int.toNat_natCast])
theorem getD_set {α : Type} (l : List α) (i : Nat) (v d : α) (j : Nat) (hi : i < l.length) : (l.set i v).getD j d = if j = i then v else l.getD j d := by
 rw [List.getD_eq_getElem?_getD, List.getD_eq_getElem?_getD, List.getElem?_set]
 by_cases h : i = j
 ·subst h; rw [if_pos rfl, if_pos rfl, if_pos hi]; rfl
 ·rw [if_neg h, if_neg (fun e => h e.symm)]
theorem getD_rep {α : Type} (n : Nat) (d : α) (j : Nat) : (List.replicate n d).getD j d = d := by
 rw [List.getD_eq_getElem?_getD, List.getElem?_replicate]; split <;> rfl
theorem trim_ev : ∀ (n : Nat) (l : List Int), l.length = n → n ≤ 1000000 → ∃ r, Ev (fun k => poly_trim.f k l) r ∧ (∀ i, r.getD i 0 = l.getD i 0) ∧ (r ≠ [] → r.getD (r.length - 1) 0 ≠ 0) ∧ ∃ m, r = l.take m
 | 0, l, h, hb => by
  have : l = [] := List.eq_nil_of_length_eq_zero h
  subst this
  exact ⟨[], Ev.step (f := fun _ => some []) (fun k => by simp [poly_trim.f, poly_trim.l0]) (Ev.now _), fun _ => rfl, fun h => absurd rfl h, 0, rfl⟩
 | n + 1, l, h, hb => by
  have e1 : wrap64 ((l.length : Int) - 1) = (n : Int) := by rw [w64 (by omega) (by omega)]; omega
  by_cases c : l.getD n 0 = 0
  ·obtain ⟨r, hr, h1, h2, m, h3⟩ := trim_ev n (l.take n) (by rw [List.length_take]; omega) (by omega)
   refine ⟨r, Ev.step (f := fun k => poly_trim.f k (l.take n)) (fun k => ?_) hr, fun i => ?_, h2, min m n, by rw [h3, List.take_take]⟩
   ·simp only [poly_trim.f]
    rw [poly_trim.l0, if_pos (by omega), e1, if_pos (by omega), if_pos (by omega), rd_nat, if_pos c, if_pos (by omega), Int.toNat_natCast]
   ·rw [h1 i, List.getD_eq_getElem?_getD, List.getD_eq_getElem?_getD, List.getElem?_take]
    by_cases ci : i < n
    ·rw [if_pos ci]
    ·rw [if_neg ci]
     by_cases ce : i = n
     ·subst ce; rw [List.getD_eq_getElem?_getD] at c; exact c.symm
     ·rw [List.getElem?_eq_none (by omega)]
  ·refine ⟨l, Ev.step (f := fun _ => some l) (fun k => ?_) (Ev.now _), fun _ => rfl, fun _ => by rw [h]; exact c, l.length, by rw [List.take_length]⟩
   simp only [poly_trim.f]
   rw [poly_trim.l0, if_pos (by omega), e1, if_pos (by omega), if_pos (by omega), rd_nat, if_neg c]
variable {a : GFd} {K : Rp}
theorem cano_of {l r : List Int} (hr : ∀ x ∈ l, 0 ≤ x ∧ x < K.q) (h2 : r ≠ [] → r.getD (r.length - 1) 0 ≠ 0) {m : Nat} (h3 : r = l.take m) : K.Cano r :=
 ⟨fun x hx => by rw [h3] at hx; exact hr x (List.mem_of_mem_take hx), h2⟩
theorem pl_ext {l r : List Int} (h : ∀ i, r.getD i 0 = l.getD i 0) : K.pl r = K.pl l := funext fun i => by show K.inE _ = K.inE _; rw [h i]
theorem trim_cano (l : List Int) (hl : l.length ≤ 1000000) (hr : ∀ x ∈ l, 0 ≤ x ∧ x < K.q) : ∃ r, Ev (fun k => poly_trim.f k l) r ∧ K.Cano r ∧ K.pl r = K.pl l ∧ r.length ≤ l.length := by
 obtain ⟨r, h0, h1, h2, m, h3⟩ := trim_ev l.length l rfl hl
 exact ⟨r, h0, cano_of hr h2 h3, pl_ext h1, by rw [h3, List.length_take]; omega⟩
theorem is_fd (F : Fd a K) (x : Int) : a.is x = decide (0 ≤ x ∧ x < K.q) := by unfold GFd.is; rw [F.q]; simp
theorem mem_getD {l : List Int} {x : Int} (h : x ∈ l) : ∃ i, i < l.length ∧ l.getD i 0 = x := by
 obtain ⟨i, hi, e⟩ := List.getElem_of_mem h
 exact ⟨i, hi, by rw [List.getD_eq_getElem?_getD, List.getElem?_eq_getElem hi, e]; rfl⟩
theorem canon_ev (F : Fd a K) (l : List Int) (hl : l.length ≤ 1000000) : ∃ r, Ev (fun k => poly_Canon.f k a l) r ∧ K.Cano r ∧ K.pl r = K.pl l ∧ r.length ≤ l.length := by
 have main := loopE (G := fun k s i => poly_Canon.l0 k a s l (l.length : Int) i) (n := l.length)
  (Inv := fun i s => s.length = l.length ∧ ∀ j, s.getD j 0 = if j < i then K.inn (l.getD j 0) else 0)
  (Q := fun r => K.Cano r ∧ K.pl r = K.pl l ∧ r.length ≤ l.length) ?_ ?_ l.length 0 (List.replicate l.length 0) (by omega) ⟨by simp, fun j => by rw [getD_rep]; simp⟩
 ·obtain ⟨r, hr, hq⟩ := main
  refine ⟨r, ?_, hq⟩
  refine Ev.congr (f := fun k => poly_Canon.l0 k a (List.replicate l.length 0) l (l.length : Int) ((0 : Nat) : Int)) (fun k => ?_) hr
  simp only [poly_Canon.f]
  rw [if_pos (by omega), if_pos (by omega)]
  rfl
 ·rintro i s hi ⟨hs1, hs2⟩
  by_cases c : 0 ≤ l.getD i 0 ∧ l.getD i 0 < K.q
  ·refine ⟨s.set i (l.getD i 0), ⟨by rw [List.length_set, hs1], fun j => ?_⟩, fun r hr => Ev.step (fun k => ?_) hr⟩
   ·rw [getD_set _ _ _ _ _ (by omega), hs2 j]
    by_cases cj : j = i
    ·subst cj; rw [if_pos rfl, if_pos (by omega), Rp.inn_of c.1 c.2]
    ·rw [if_neg cj]
     by_cases cl : j < i
     ·rw [if_pos cl, if_pos (by omega)]
     ·rw [if_neg cl, if_neg (by omega)]
   ·simp only [poly_Canon.l0, field_GF_Is.f, Option.bind_some]
    rw [if_pos (by omega), if_pos (by omega), if_pos (by omega), rd_nat, is_fd F, if_pos (by simpa using c), if_pos (by omega), w1 (by omega), Int.toNat_natCast]
  ·refine ⟨s, ⟨hs1, fun j => ?_⟩, fun r hr => Ev.step (fun k => ?_) hr⟩
   ·rw [hs2 j]
    by_cases cj : j = i
    ·subst cj
     rw [if_neg (by omega), if_pos (by omega)]
     unfold Rp.inn; rw [if_neg c]
    ·by_cases cl : j < i
     ·rw [if_pos cl, if_pos (by omega)]
     ·rw [if_neg cl, if_neg (by omega)]
   ·simp only [poly_Canon.l0, field_GF_Is.f, Option.bind_some]
    rw [if_pos (by omega), if_pos (by omega), if_pos (by omega), rd_nat, is_fd F, if_neg (by simpa using c), w1 (by omega)]
 ·rintro s ⟨hs1, hs2⟩
  have hg : ∀ j, s.getD j 0 = K.inn (l.getD j 0) := fun j => by
   rw [hs2 j]
   by_cases c : j < l.length
   ·rw [if_pos c]
   ·rw [if_neg c, List.getD_eq_getElem?_getD, List.getElem?_eq_none (by omega)]; exact Rp.inn_zero.symm
  obtain ⟨r, h0, h1, h2, h3⟩ := trim_cano (K := K) s (by omega) (fun x hx => by
   obtain ⟨i, _, rfl⟩ := mem_getD hx
   rw [hg i]; exact Rp.inn_bd _)
  refine ⟨r, Ev.step (f := fun k => (poly_trim.f k s).bind fun t => some t) (fun k => ?_) (Ev.bind h0 (Ev.now _)), h1, h2.trans ?_, by omega⟩
  ·simp only [poly_Canon.l0]
   rw [if_neg (by omega)]
  ·funext i
   show K.inE _ = K.inE _
   rw [hg i]
   exact Rp.E.val_inj (Rp.inn_inn _)
end Go.Proofs.Ytgjphmcofmkmfaa.G
namespace Go.Proofs.Ytgjphmcofmkmfaa.G
open Go.RowKit Go.Proofs.YtgjphmcofmkmfaaW.PrintWords Go.Proofs.YtgjphmcofmkmfaaW.PrintLast Go.Proofs.YtgjphmcofmkmfaaW.PrintMore
open Go.Proofs.Ytgjphmcofmkmfaa.Al
theorem iterE {σ γ : Type} {G : Nat → σ → Int → Option γ} {n : Nat} {Inv : Nat → σ → Prop}
  (step : ∀ i s, i < n → Inv i s → ∃ s', Inv (i + 1) s' ∧ ∀ r, Ev (fun k => G k s' ((i + 1 : Nat) : Int)) r → Ev (fun k => G k s (i : Int)) r) : ∀ m i s, i + m = n → Inv i s → ∃ s', Inv n s' ∧ ∀ r, Ev (fun k => G k s' (n : Int)) r → Ev (fun k => G k s (i : Int)) r
 | 0, i, s, e, h => by
  have : i = n := by omega
  subst this
  exact ⟨s, h, fun r hr => hr⟩
 | m + 1, i, s, e, h => by
  obtain ⟨s', h', hs⟩ := step i s (by omega) h
  obtain ⟨s2, h2, hs2⟩ := iterE step m (i + 1) s' (by omega) h'
  exact ⟨s2, h2, fun r hr => hs r (hs2 r hr)⟩
section
variable {R : Type} [Add R] [Mul R] [Neg R] [Zero R] [One R] [CR R]
def tr (n : Nat) (f : PS R) : PS R := fun i => if i < n then f i else 0
theorem tr_zero {R : Type} [Zero R] (f : PS R) : tr 0 f = 0 := funext fun i => if_neg (by omega)
theorem tr_succ (n : Nat) (f : PS R) : tr (n + 1) f = tr n f + mon n (f n) := funext fun i => by
 rw [ps_add, mon_at]
 unfold tr
 by_cases c : i < n
 ·rw [if_pos c, if_pos (by omega), if_neg (by omega), az]
 ·rw [if_neg c]
  by_cases e : i = n
  ·subst e; rw [if_pos (by omega), if_pos rfl, za]
  ·rw [if_neg (by omega), if_neg e, az]
theorem tr_all {R : Type} [Zero R] {n : Nat} {f : PS R} (h : Bd f n) : tr n f = f := funext fun i => by
 unfold tr
 by_cases c : i < n
 ·rw [if_pos c]
 ·rw [if_neg c, h i (by omega)]
end
variable {a : GFd} {K : Rp}
theorem pl_at (l : List Int) (i : Nat) : K.pl l i = K.inE (l.getD i 0) := rfl
theorem pl_set {l : List Int} {i : Nat} (hi : i < l.length) (z : K.E) : K.pl (l.set i (K.pl l i + z).1) = K.pl l + mon i z := funext fun j => by
 rw [ps_add, mon_at, pl_at, getD_set _ _ _ _ _ hi]
 by_cases c : j = i
 ·subst c; rw [if_pos rfl, if_pos rfl, Rp.inE_of]
 ·rw [if_neg c, if_neg c, az]; rfl
theorem pl_rep (n : Nat) : K.pl (List.replicate n 0) = 0 := funext fun i => by rw [pl_at, getD_rep]; exact Rp.inE_zero
def Rng (K : Rp) (l : List Int) : Prop := ∀ x ∈ l, 0 ≤ x ∧ x < K.q
theorem rng_set {l : List Int} (h : Rng K l) (i : Nat) (z : K.E) : Rng K (l.set i z.1) := fun x hx => by
 rcases List.mem_or_eq_of_mem_set hx with h1 | h1
 ·exact h x h1
 ·subst h1; exact z.2
theorem rng_rep (n : Nat) : Rng K (List.replicate n 0) := fun x hx => by
 rw [List.eq_of_mem_replicate hx]; exact ⟨Int.le_refl _, by have := @Rp.q_gt K; omega⟩
theorem inE_inE (z : K.E) : K.inE z.1 = z := Rp.inE_of z
theorem combine_ev (F : Fd a K) (p : List Int) (x : Int) (q : List Int) (hp : p.length ≤ 1000000) (hq : q.length ≤ 1000000) :
  ∃ r, Ev (fun k => poly_combine.f k a p x q) r ∧ K.Cano r ∧ K.pl r = K.pl p + cn (K.inE x) * K.pl q ∧ r.length ≤ max p.length q.length := by
 have hm : (mx (p.length : Int) (q.length : Int)) = ((max p.length q.length : Nat) : Int) := by unfold mx; split <;> omega
 obtain ⟨N, hN⟩ : ∃ N, N = max p.length q.length := ⟨_, rfl⟩
 obtain ⟨s, ⟨h1, h2, h3⟩, hs⟩ := iterE (G := fun k s i => poly_combine.l0 k a x q s p (p.length : Int) i) (n := p.length)
  (Inv := fun i s => s.length = N ∧ Rng K s ∧ K.pl s = tr i (K.pl p)) (fun i s hi ⟨h1, h2, h3⟩ => by
   have hz : K.pl s i = 0 := by rw [h3]; exact if_neg (by omega)
   refine ⟨s.set i (K.pl s i + K.pl p i).1, ⟨by rw [List.length_set, h1], rng_set h2 i _, by rw [pl_set (by omega), h3, tr_succ]⟩, fun r hr => Ev.step (fun k => ?_) hr⟩
   simp only [poly_combine.l0, field_GF_Add.f, Option.bind_some]
   rw [if_pos (by omega), if_pos (by omega), if_pos (by omega), if_pos (by omega), rd_nat, Int.toNat_natCast, w1 (by omega), F.add, Rp.inE_zero, az, hz, za]; rfl) p.length 0 (List.replicate N 0) (by omega) ⟨by simp, rng_rep _, by rw [pl_rep, tr_zero]⟩
 rw [tr_all (Rp.bd_pl p)] at h3
 obtain ⟨s2, ⟨g1, g2, g3⟩, hs2⟩ := iterE (G := fun k s i => poly_combine.l1 k a x s q (q.length : Int) i) (n := q.length)
  (Inv := fun i s => s.length = N ∧ Rng K s ∧ K.pl s = K.pl p + cn (K.inE x) * tr i (K.pl q)) (fun i s hi ⟨h1, h2, h3⟩ => by
   refine ⟨s.set i (K.pl s i + K.inE x * K.pl q i).1, ⟨by rw [List.length_set, h1], rng_set h2 i _, by rw [pl_set (by omega), h3, tr_succ, md, aa, cn_mon, mon_mon, Nat.zero_add]⟩, fun r hr => Ev.step (fun k => ?_) hr⟩
   simp only [poly_combine.l1, field_GF_Add.f, field_GF_Mul.f, Option.bind_some]
   rw [if_pos (by omega), if_pos (by omega), if_pos (by omega), if_pos (by omega), rd_nat, rd_nat, Int.toNat_natCast, w1 (by omega), F.add, F.mul, inE_inE]; rfl) q.length 0 s (by omega) ⟨h1, h2, by rw [h3, tr_zero, mz, az]⟩
 rw [tr_all (Rp.bd_pl q)] at g3
 obtain ⟨r, t0, t1, t2, t3⟩ := trim_cano (K := K) s2 (by omega) g2
 refine ⟨r, ?_, t1, t2.trans g3, by omega⟩
 have e1 : Ev (fun k => poly_combine.l1 k a x s2 q (q.length : Int) (q.length : Int)) r := Ev.step (f := fun k => (poly_trim.f k s2).bind fun t => some t) (fun k => by simp only [poly_combine.l1]; rw [if_neg (by omega)]) (Ev.bind t0 (Ev.now _))
 have e2 : Ev (fun k => poly_combine.l0 k a x q s p (p.length : Int) (p.length : Int)) r := Ev.step (fun k => by simp only [poly_combine.l0]; rw [if_neg (by omega)]; rfl) (hs2 r e1)
 refine Ev.congr (fun k => ?_) (hs r e2)
 simp only [poly_combine.f]
 rw [hm, if_pos (by omega), if_pos (by omega), Int.toNat_natCast, hN]
 rfl
theorem padd_ev (F : Fd a K) (p q : List Int) (hp : p.length ≤ 1000000) (hq : q.length ≤ 1000000) :
  ∃ r, Ev (fun k => poly_Add.f k a p q) r ∧ K.Cano r ∧ K.pl r = K.pl p + K.pl q ∧ r.length ≤ max p.length q.length := by
 obtain ⟨r, h0, h1, h2, h3⟩ := combine_ev F p 1 q hp hq
 exact ⟨r, Ev.bind h0 (Ev.now _), h1, by rw [h2, Rp.inE_one, cn_one, om], h3⟩
theorem cano_last {l : List Int} (h : K.Cano l) (hl : l ≠ []) : K.pl l (l.length - 1) ≠ 0 := fun e => h.2 hl (by
 have := congrArg Subtype.val e
 rw [Rp.pl_val h.1] at this
 exact this)
theorem product_loops (F : Fd a K) (p q : List Int) (hp : p.length ≤ 100000) (hq : q.length ≤ 100000) (hpn : p ≠ []) (hqn : q ≠ []) :
  ∃ r, Ev (fun k => poly_product.l0 k a q (List.replicate (p.length + q.length - 1) 0) p (p.length : Int) ((0 : Nat) : Int)) r ∧ Rng K r ∧ K.pl r = K.pl p * K.pl q ∧ r.length = p.length + q.length - 1 := by
 have hpl := List.length_pos_iff.mpr hpn
 have hql := List.length_pos_iff.mpr hqn
 obtain ⟨s, ⟨h1, h2, h3⟩, hs⟩ := iterE (G := fun k s i => poly_product.l0 k a q s p (p.length : Int) i) (n := p.length)
  (Inv := fun i s => s.length = p.length + q.length - 1 ∧ Rng K s ∧ K.pl s = tr i (K.pl p) * K.pl q) (fun i s hi ⟨h1, h2, h3⟩ => by
   obtain ⟨s2, ⟨g1, g2, g3⟩, hs2⟩ := iterE (G := fun k s j => poly_product.l1 k a q s (i : Int) (p.getD i 0) p (p.length : Int) (i : Int) q (q.length : Int) j) (n := q.length)
    (Inv := fun j s => s.length = p.length + q.length - 1 ∧ Rng K s ∧ K.pl s = tr i (K.pl p) * K.pl q + mon i (K.pl p i) * tr j (K.pl q)) (fun j s hj ⟨h1, h2, h3⟩ => by
     have e1 : wrap64 ((i : Int) + (j : Int)) = ((i + j : Nat) : Int) := by rw [w64 (by omega) (by omega)]; omega
     refine ⟨s.set (i + j) (K.pl s (i + j) + K.pl p i * K.pl q j).1, ⟨by rw [List.length_set, h1], rng_set h2 _ _, by rw [pl_set (by omega), h3, tr_succ, md, mon_mon, aa]⟩, fun r hr => Ev.step (fun k => ?_) hr⟩
     simp only [poly_product.l1, field_GF_Add.f, field_GF_Mul.f, Option.bind_some]
     rw [if_pos (by omega), if_pos (by omega), if_pos (by omega), e1, if_pos (by omega), if_pos (by omega), rd_nat, rd_nat, Int.toNat_natCast, w1 (by omega), F.add, F.mul, inE_inE]; rfl) q.length 0 s (by omega) ⟨h1, h2, by rw [h3, tr_zero, mz, az]⟩
   rw [tr_all (Rp.bd_pl q), ← dm, ← tr_succ] at g3
   refine ⟨s2, ⟨g1, g2, g3⟩, fun r hr => Ev.step (f := fun k => poly_product.l1 k a q s (i : Int) (p.getD i 0) p (p.length : Int) (i : Int) q (q.length : Int) ((0 : Nat) : Int)) (fun k => ?_) (hs2 r (Ev.step (fun k => ?_) hr))⟩
   ·simp only [poly_product.l0]
    rw [if_pos (by omega), if_pos (by omega), if_pos (by omega), rd_nat]
    rfl
   ·simp only [poly_product.l1]
    rw [if_neg (by omega), w1 (by omega)]) p.length 0 (List.replicate (p.length + q.length - 1) 0) (by omega) ⟨by simp, rng_rep _, by rw [pl_rep, tr_zero, zm]⟩
 rw [tr_all (Rp.bd_pl p)] at h3
 refine ⟨s, hs s (Ev.step (f := fun _ => some s) (fun k => ?_) (Ev.now _)), h2, h3, h1⟩
 simp only [poly_product.l0]
 rw [if_neg (by omega)]
theorem product_ev (F : Fd a K) (p q : List Int) (hp : p.length ≤ 100000) (hq : q.length ≤ 100000) :
  ∃ r, Ev (fun k => poly_product.f k a p q) r ∧ K.Cano r ∧ K.pl r = K.pl p * K.pl q ∧ r.length ≤ p.length + q.length := by
 obtain ⟨p', a0, a1, a2, a3⟩ := canon_ev F p (by omega)
 obtain ⟨q', b0, b1, b2, b3⟩ := canon_ev F q (by omega)
 have nil : (p' = [] ∨ q' = []) → ∃ r, Ev (fun k => poly_product.j0 k a p' q' true) r ∧ K.Cano r ∧ K.pl r = K.pl p * K.pl q ∧ r.length ≤ p.length + q.length := fun h => by
  refine ⟨[], Ev.step (f := fun _ => some []) (fun k => by simp only [poly_product.j0]; rw [if_pos trivial]) (Ev.now _), Rp.cano_nil, ?_, by simp⟩
  rw [Rp.pl_nil, ← a2, ← b2]
  rcases h with h | h
  ·rw [h, Rp.pl_nil, zm]
  ·rw [h, Rp.pl_nil, mz]
 by_cases c : p' = []
 ·obtain ⟨r, h0, h1⟩ := nil (.inl c)
  refine ⟨r, Ev.bind a0 (Ev.bind b0 (Ev.congr (fun k => ?_) h0)), h1⟩
  rw [if_pos (by rw [c]; rfl)]
 ·by_cases d : q' = []
  ·obtain ⟨r, h0, h1⟩ := nil (.inr d)
   refine ⟨r, Ev.bind a0 (Ev.bind b0 (Ev.congr (fun k => ?_) h0)), h1⟩
   have := List.length_pos_iff.mpr c
   rw [if_neg (by omega), d]
   rfl
  ·obtain ⟨r, h0, h1, h2, h3⟩ := product_loops F p' q' (by omega) (by omega) c d
   have hp1 := List.length_pos_iff.mpr c
   have hq1 := List.length_pos_iff.mpr d
   refine ⟨r, Ev.bind a0 (Ev.bind b0 (Ev.congr (f := fun k => poly_product.j0 k a p' q' false) (fun k => ?_) (Ev.step (fun k => ?_) h0))), ⟨h1, fun hr => ?_⟩, by rw [h2, a2, b2], by omega⟩
   ·rw [if_neg (by omega)]
    congr 1
    exact beq_eq_false_iff_ne.mpr (by omega)
   ·have e1 : wrap64 (wrap64 ((p'.length : Int) + (q'.length : Int)) - 1) = ((p'.length + q'.length - 1 : Nat) : Int) := by
     rw [w64 (x := (p'.length : Int) + (q'.length : Int)) (by omega) (by omega), w64 (by omega) (by omega)]; omega
    simp only [poly_product.j0]
    rw [if_neg (by simp), e1, if_pos (by omega), if_pos (by omega), Int.toNat_natCast]
    rfl
   ·intro e
    have e2 : K.pl r (r.length - 1) = K.pl p' (p'.length - 1) * K.pl q' (q'.length - 1) := by
     rw [h2, h3, ps_mul, sm_only (j := p'.length - 1) (by omega)]
     ·congr 2; omega
     ·intro i hi hne
      by_cases ci : i < p'.length
      ·rw [Rp.bd_pl q' _ (by omega), mz]
      ·rw [Rp.bd_pl p' _ (by omega), zm]
    have e3 : K.pl r (r.length - 1) = 0 := by rw [pl_at, e]; exact Rp.inE_zero
    rw [e3] at e2
    rcases F.dom _ _ e2.symm with e4 | e4
    ·exact cano_last a1 c e4
    ·exact cano_last b1 d e4
theorem pmul_ev (F : Fd a K) (p q : List Int) (hp : p.length ≤ 10000) (hq : q.length ≤ 10000) :
  ∃ r, Ev (fun k => poly_Mul.f k a [p, q]) r ∧ K.Cano r ∧ K.pl r = K.pl p * K.pl q ∧ r.length ≤ p.length + q.length + 1 := by
 obtain ⟨r1, a0, a1, a2, a3⟩ := product_ev F [1] p (by simp) (by omega)
 simp only [List.length_singleton] at a3
 obtain ⟨r2, b0, b1, b2, b3⟩ := product_ev F r1 q (by omega) (by omega)
 have e1 : K.pl [1] = 1 := funext fun i => by
  cases i with
  | zero => exact Rp.inE_one
  | succ i => exact Rp.inE_zero
 refine ⟨r2, ?_, b1, by rw [b2, a2, e1, om], by omega⟩
 have w : wrap64 ((0 : Int) + 1) = 1 := by rw [w64 (by omega) (by omega)]; rfl
 have w' : wrap64 ((1 : Int) + 1) = 2 := by rw [w64 (by omega) (by omega)]; rfl
 refine Ev.step (f := fun k => (poly_product.f k a [1] p).bind fun t => poly_Mul.l0 k a t [p, q] 2 1) (fun k => ?_) (Ev.bind a0 ?_)
 ·simp only [poly_Mul.f, poly_Mul.l0]
  rw [if_pos (by simp), if_pos (by omega), if_pos (by simp), w]
  rfl
 refine Ev.step (f := fun k => (poly_product.f k a r1 q).bind fun t => poly_Mul.l0 k a t [p, q] 2 2) (fun k => ?_) (Ev.bind b0 ?_)
 ·simp only [poly_Mul.l0]
  rw [if_pos (by omega), if_pos (by omega), if_pos (by simp), w']
  rfl
 refine Ev.step (f := fun _ => some r2) (fun k => ?_) (Ev.now _)
 simp only [poly_Mul.l0]
 rw [if_neg (by omega)]
end Go.Proofs.Ytgjphmcofmkmfaa.G
namespace Go.Proofs.Ytgjphmcofmkmfaa.G
open Go.RowKit Go.Proofs.YtgjphmcofmkmfaaW.PrintWords Go.Proofs.YtgjphmcofmkmfaaW.PrintLast Go.Proofs.YtgjphmcofmkmfaaW.PrintMore
open Go.Proofs.Ytgjphmcofmkmfaa.Al
variable {a : GFd} {K : Rp}
def Rows (K : Rp) (B : Nat) (s : List (List Int)) : Prop := ∀ c ∈ s, K.Cano c ∧ c.length ≤ B
theorem rows_at {B : Nat} {s : List (List Int)} (h : Rows K B s) (i : Nat) : K.Cano (s.getD i []) ∧ (s.getD i []).length ≤ B := by
 rw [List.getD_eq_getElem?_getD]
 cases e : s[i]? with
 | none => exact ⟨Rp.cano_nil, Nat.zero_le _⟩
 | some x => exact h x (List.mem_of_getElem? e)
theorem rows_set {B : Nat} {s : List (List Int)} (h : Rows K B s) (i : Nat) {r : List Int} (hr : K.Cano r) (hl : r.length ≤ B) : Rows K B (s.set i r) := fun x hx => by
 rcases List.mem_or_eq_of_mem_set hx with h1 | h1
 ·exact h x h1
 ·subst h1; exact ⟨hr, hl⟩
theorem rows_rep (n B : Nat) : Rows K B (List.replicate n []) := fun x hx => by
 rw [List.eq_of_mem_replicate hx]; exact ⟨Rp.cano_nil, Nat.zero_le _⟩
theorem bl_at (s : List (List Int)) (i : Nat) : K.bl s i = K.pl (s.getD i []) := rfl
theorem bl_rep (n : Nat) : K.bl (List.replicate n []) = 0 := funext fun i => by rw [bl_at, getD_rep]; exact Rp.pl_nil
theorem bl_set {s : List (List Int)} {i : Nat} (hi : i < s.length) {r : List Int} {z : PS K.E} (hr : K.pl r = K.bl s i + z) : K.bl (s.set i r) = K.bl s + mon i z := funext fun j => by
 rw [ps_add, mon_at, bl_at, getD_set _ _ _ _ _ hi]
 by_cases c : j = i
 ·subst c; rw [if_pos rfl, if_pos rfl, hr]
 ·rw [if_neg c, if_neg c, az]; rfl
theorem getD_none {α : Type} {l : List α} {i : Nat} (h : l.length ≤ i) (d : α) : l.getD i d = d := by rw [List.getD_eq_getElem?_getD, List.getElem?_eq_none h]; rfl
theorem take_getD {α : Type} (l : List α) (m : Nat) (d : α) (i : Nat) : (l.take m).getD i d = if i < m then l.getD i d else d := by
 rw [List.getD_eq_getElem?_getD, List.getElem?_take]
 by_cases c : i < m
 ·rw [if_pos c, if_pos c, List.getD_eq_getElem?_getD]
 ·rw [if_neg c, if_neg c]; rfl
theorem btrim_ev : ∀ (n : Nat) (l : List (List Int)), l.length = n → n ≤ 1000000 → ∃ m, Ev (fun k => bivariate_trim.f k l) (l.take m) ∧ (∀ i, (l.take m).getD i [] = l.getD i []) ∧ (l.take m ≠ [] → (l.take m).getD ((l.take m).length - 1) [] ≠ [])
 | 0, l, h, hb => by
  have : l = [] := List.eq_nil_of_length_eq_zero h
  subst this
  exact ⟨0, Ev.step (f := fun _ => some []) (fun k => by simp [bivariate_trim.f, bivariate_trim.l0]) (Ev.now _), fun _ => rfl, fun h => absurd rfl h⟩
 | n + 1, l, h, hb => by
  have e1 : wrap64 ((l.length : Int) - 1) = (n : Int) := by rw [w64 (by omega) (by omega)]; omega
  by_cases c : l.getD n [] = []
  ·obtain ⟨m, hr, h1, h2⟩ := btrim_ev n (l.take n) (by rw [List.length_take]; omega) (by omega)
   rw [List.take_take] at hr h1 h2
   refine ⟨min m n, Ev.step (f := fun k => bivariate_trim.f k (l.take n)) (fun k => ?_) hr, fun i => ?_, h2⟩
   ·simp only [bivariate_trim.f]
    rw [bivariate_trim.l0, if_pos (by omega), e1, if_pos (by omega), if_pos (by omega), rd2_nat, if_pos (by rw [c]; rfl), if_pos (by omega), Int.toNat_natCast]
   ·rw [h1 i, take_getD]
    by_cases ci : i < n
    ·rw [if_pos ci]
    ·rw [if_neg ci]
     by_cases ce : i = n
     ·subst ce; exact c.symm
     ·rw [getD_none (by omega)]
  ·refine ⟨l.length, Ev.step (f := fun _ => some l) (fun k => ?_) (by rw [List.take_length]; exact Ev.now _), fun _ => by rw [List.take_length], fun _ => by rw [List.take_length, h]; exact c⟩
   simp only [bivariate_trim.f]
   have := List.length_pos_iff.mpr c
   rw [bivariate_trim.l0, if_pos (by omega), e1, if_pos (by omega), if_pos (by omega), rd2_nat, if_neg (by omega)]
theorem btrim_cano {B : Nat} (l : List (List Int)) (hl : l.length ≤ 1000000) (hr : Rows K B l) : ∃ r, Ev (fun k => bivariate_trim.f k l) r ∧ K.BCano r ∧ Rows K B r ∧ K.bl r = K.bl l ∧ r.length ≤ l.length := by
 obtain ⟨m, h0, h1, h2⟩ := btrim_ev l.length l rfl hl
 exact ⟨_, h0, ⟨fun c hc => (hr c (List.mem_of_mem_take hc)).1, h2⟩, fun c hc => hr c (List.mem_of_mem_take hc), funext fun i => by rw [bl_at, bl_at, h1], by rw [List.length_take]; omega⟩
def Len (B : Nat) (p : List (List Int)) : Prop := ∀ c ∈ p, c.length ≤ B
theorem len_at {B : Nat} {p : List (List Int)} (h : Len B p) (i : Nat) : (p.getD i []).length ≤ B := by
 rw [List.getD_eq_getElem?_getD]
 cases e : p[i]? with
 | none => exact Nat.zero_le _
 | some x => exact h x (List.mem_of_getElem? e)
theorem Rows.len {B : Nat} {p : List (List Int)} (h : Rows K B p) : Len B p := fun c hc => (h c hc).2
theorem bcanon_ev (F : Fd a K) {B : Nat} (hB : B ≤ 1000000) (p : List (List Int)) (hp : p.length ≤ 1000000) (hl : Len B p) : ∃ r, Ev (fun k => bivariate_Canon.f k a p) r ∧ K.BCano r ∧ Rows K B r ∧ K.bl r = K.bl p ∧ r.length ≤ p.length := by
 obtain ⟨s, ⟨h1, h2, h3⟩, hs⟩ := iterE (G := fun k s i => bivariate_Canon.l0 k a s p (p.length : Int) i) (n := p.length)
  (Inv := fun i s => s.length = p.length ∧ Rows K B s ∧ K.bl s = tr i (K.bl p)) (fun i s hi ⟨h1, h2, h3⟩ => by
   have hz : K.bl s i = 0 := by rw [h3]; exact if_neg (by omega)
   obtain ⟨r, c0, c1, c2, c3⟩ := canon_ev F (p.getD i []) (Nat.le_trans (len_at hl i) hB)
   refine ⟨s.set i r, ⟨by rw [List.length_set, h1], rows_set h2 i c1 (Nat.le_trans c3 (len_at hl i)), by rw [bl_set (by omega) (z := K.bl p i) (by rw [hz, za, c2]; rfl), h3, tr_succ]⟩, fun r' hr => Ev.step (f := fun k => (poly_Canon.f k a (p.getD i [])).bind fun t => if (i : Int) < (s.length : Int) then bivariate_Canon.l0 k a (s.set i t) p (p.length : Int) ((i + 1 : Nat) : Int) else none) (fun k => ?_) (Ev.bind c0 (Ev.congr (fun k => ?_) hr))⟩
   ·simp only [bivariate_Canon.l0]
    rw [if_pos (by omega), if_pos (by omega), if_pos (by omega), rd2_nat, Int.toNat_natCast, w1 (by omega)]
   ·rw [if_pos (by omega)]) p.length 0 (List.replicate p.length []) (by omega) ⟨by simp, rows_rep _ _, by rw [bl_rep, tr_zero]⟩
 rw [tr_all (Rp.bd_bl p)] at h3
 obtain ⟨r, t0, t1, t2, t3, t4⟩ := btrim_cano s (by omega) h2
 refine ⟨r, Ev.congr (fun k => ?_) (hs r (Ev.step (f := fun k => (bivariate_trim.f k s).bind fun t => some t) (fun k => ?_) (Ev.bind t0 (Ev.now _)))), t1, t2, t3.trans h3, by omega⟩
 ·simp only [bivariate_Canon.f]
  rw [if_pos (by omega), if_pos (by omega), Int.toNat_natCast]
  rfl
 ·simp only [bivariate_Canon.l0]
  rw [if_neg (by omega)]
theorem badd_ev (F : Fd a K) {B : Nat} (hB : B ≤ 1000000) (p q : List (List Int)) (hp : p.length ≤ 1000000) (hq : q.length ≤ 1000000) (hl : Len B p) (hl' : Len B q) : ∃ r, Ev (fun k => bivariate_Add.f k a p q) r ∧ K.BCano r ∧ Rows K B r ∧ K.bl r = K.bl p + K.bl q ∧ r.length ≤ max p.length q.length := by
 have hm : (mx (p.length : Int) (q.length : Int)) = ((max p.length q.length : Nat) : Int) := by unfold mx; split <;> omega
 obtain ⟨N, hN⟩ : ∃ N, N = max p.length q.length := ⟨_, rfl⟩
 obtain ⟨s, ⟨h1, h2, h3⟩, hs⟩ := iterE (G := fun k s i => bivariate_Add.l0 k a p q s (N : Int) i) (n := N)
  (Inv := fun i s => s.length = N ∧ Rows K B s ∧ K.bl s = tr i (K.bl p + K.bl q)) (fun i s hi ⟨h1, h2, h3⟩ => by
   have hz : K.bl s i = 0 := by rw [h3]; exact if_neg (by omega)
   obtain ⟨r, c0, c1, c2, c3⟩ := padd_ev F (p.getD i []) (q.getD i []) (Nat.le_trans (len_at hl i) hB) (Nat.le_trans (len_at hl' i) hB)
   have d1 := len_at hl i
   have d2 := len_at hl' i
   refine ⟨s.set i r, ⟨by rw [List.length_set, h1], rows_set h2 i c1 (by omega), by rw [bl_set (by omega) (z := (K.bl p + K.bl q) i) (by rw [hz, za, c2]; rfl), h3, tr_succ]⟩, fun r' hr => Ev.step (f := fun k => (poly_Add.f k a (p.getD i []) (q.getD i [])).bind fun t => if (i : Int) < (s.length : Int) then bivariate_Add.l0 k a p q (s.set i t) (N : Int) ((i + 1 : Nat) : Int) else none) (fun k => ?_) (Ev.bind c0 (Ev.congr (fun k => ?_) hr))⟩
   ·simp only [bivariate_Add.l0]
    rw [if_pos (by omega)]
    by_cases cp : i < p.length
    ·rw [if_pos (by omega), if_pos (by omega)]
     by_cases cq : i < q.length
     ·rw [if_pos (by omega), rd2_nat, rd2_nat, Int.toNat_natCast, w1 (by omega)]
     ·rw [if_neg (by omega), rd2_nat, getD_none (l := q) (by omega), Int.toNat_natCast, w1 (by omega)]
    ·rw [if_neg (by omega)]
     by_cases cq : i < q.length
     ·rw [if_pos (by omega), if_pos (by omega), rd2_nat, getD_none (l := p) (by omega), Int.toNat_natCast, w1 (by omega)]
     ·omega
   ·rw [if_pos (by omega)]) N 0 (List.replicate N []) (by omega) ⟨by simp, rows_rep _ _, by rw [bl_rep, tr_zero]⟩
 have hbd : Bd (K.bl p + K.bl q) N := ((Rp.bd_bl p).mono (by omega)).add ((Rp.bd_bl q).mono (by omega))
 rw [tr_all hbd] at h3
 obtain ⟨r, t0, t1, t2, t3, t4⟩ := btrim_cano s (by omega) h2
 refine ⟨r, Ev.congr (fun k => ?_) (hs r (Ev.step (f := fun k => (bivariate_trim.f k s).bind fun t => some t) (fun k => ?_) (Ev.bind t0 (Ev.now _)))), t1, t2, t3.trans h3, by omega⟩
 ·simp only [bivariate_Add.f]
  rw [hm, if_pos (by omega), if_pos (by omega), Int.toNat_natCast, Option.bind_some, List.length_replicate, hN]
  rfl
 ·simp only [bivariate_Add.l0]
  rw [if_neg (by omega)]
theorem bmul_ev (F : Fd a K) {B : Nat} (hB : B ≤ 10000) (p q : List (List Int)) (hp : p.length ≤ 100000) (hq : q.length ≤ 100000) (hl : Len B p) (hl' : Len B q) : ∃ r, Ev (fun k => bivariate_Mul.f k a p q) r ∧ K.BCano r ∧ Rows K (B + B + 1) r ∧ K.bl r = K.bl p * K.bl q ∧ r.length ≤ p.length + q.length := by
 have nil : (p = [] ∨ q = []) → ∃ r, Ev (fun k => bivariate_Mul.j0 k a p q true) r ∧ K.BCano r ∧ Rows K (B + B + 1) r ∧ K.bl r = K.bl p * K.bl q ∧ r.length ≤ p.length + q.length := fun h => by
  refine ⟨[], Ev.step (f := fun _ => some []) (fun k => by simp only [bivariate_Mul.j0]; rw [if_pos trivial]) (Ev.now _), ⟨fun _ h => absurd h List.not_mem_nil, fun h => absurd rfl h⟩, fun _ h => absurd h List.not_mem_nil, ?_, by simp⟩
  have hb : K.bl [] = 0 := bl_rep 0
  rw [hb]
  rcases h with h | h
  ·rw [h, hb, zm]
  ·rw [h, hb, mz]
 by_cases c : p = []
 ·obtain ⟨r, h0, h1⟩ := nil (.inl c)
  refine ⟨r, Ev.congr (fun k => ?_) h0, h1⟩
  simp only [bivariate_Mul.f]
  rw [if_pos (by rw [c]; rfl)]
 by_cases d : q = []
 ·obtain ⟨r, h0, h1⟩ := nil (.inr d)
  refine ⟨r, Ev.congr (fun k => ?_) h0, h1⟩
  have := List.length_pos_iff.mpr c
  simp only [bivariate_Mul.f]
  rw [if_neg (by omega), d]
  rfl
 have hpl := List.length_pos_iff.mpr c
 have hql := List.length_pos_iff.mpr d
 obtain ⟨s, ⟨h1, h2, h3⟩, hs⟩ := iterE (G := fun k s i => bivariate_Mul.l0 k a q s p (p.length : Int) i) (n := p.length)
  (Inv := fun i s => s.length = p.length + q.length - 1 ∧ Rows K (B + B + 1) s ∧ K.bl s = tr i (K.bl p) * K.bl q) (fun i s hi ⟨h1, h2, h3⟩ => by
   obtain ⟨s2, ⟨g1, g2, g3⟩, hs2⟩ := iterE (G := fun k s j => bivariate_Mul.l1 k a q s (i : Int) (p.getD i []) p (p.length : Int) (i : Int) q (q.length : Int) j) (n := q.length)
    (Inv := fun j s => s.length = p.length + q.length - 1 ∧ Rows K (B + B + 1) s ∧ K.bl s = tr i (K.bl p) * K.bl q + mon i (K.bl p i) * tr j (K.bl q)) (fun j s hj ⟨h1, h2, h3⟩ => by
     have e1 : wrap64 ((i : Int) + (j : Int)) = ((i + j : Nat) : Int) := by rw [w64 (by omega) (by omega)]; omega
     have d1 := len_at hl i
     have d2 := len_at hl' j
     have d3 := (rows_at h2 (i + j)).2
     obtain ⟨t, m0, m1, m2, m3⟩ := pmul_ev F (p.getD i []) (q.getD j []) (by omega) (by omega)
     obtain ⟨u, n0, n1, n2, n3⟩ := padd_ev F (s.getD (i + j) []) t (by omega) (by omega)
     refine ⟨s.set (i + j) u, ⟨by rw [List.length_set, h1], rows_set h2 _ n1 (by omega), by rw [bl_set (by omega) (z := K.bl p i * K.bl q j) (by rw [n2, m2]; rfl), h3, tr_succ, md, mon_mon, aa]⟩, fun r hr => Ev.step (f := fun k => (poly_Mul.f k a [p.getD i [], q.getD j []]).bind fun t => (poly_Add.f k a (s.getD (i + j) []) t).bind fun u => bivariate_Mul.l1 k a q (s.set (i + j) u) (i : Int) (p.getD i []) p (p.length : Int) (i : Int) q (q.length : Int) ((j + 1 : Nat) : Int)) (fun k => ?_) (Ev.bind m0 (Ev.bind n0 hr))⟩
     simp only [bivariate_Mul.l1]
     rw [if_pos (by omega), if_pos (by omega), if_pos (by omega), e1, if_pos (by omega), if_pos (by omega), rd2_nat, rd2_nat, Int.toNat_natCast, w1 (by omega)]) q.length 0 s (by omega) ⟨h1, h2, by rw [h3, tr_zero, mz, az]⟩
   rw [tr_all (Rp.bd_bl q), ← dm, ← tr_succ] at g3
   refine ⟨s2, ⟨g1, g2, g3⟩, fun r hr => Ev.step (f := fun k => bivariate_Mul.l1 k a q s (i : Int) (p.getD i []) p (p.length : Int) (i : Int) q (q.length : Int) ((0 : Nat) : Int)) (fun k => ?_) (hs2 r (Ev.step (fun k => ?_) hr))⟩
   ·simp only [bivariate_Mul.l0]
    rw [if_pos (by omega), if_pos (by omega), if_pos (by omega), rd2_nat]
    rfl
   ·simp only [bivariate_Mul.l1]
    rw [if_neg (by omega), w1 (by omega)]) p.length 0 (List.replicate (p.length + q.length - 1) []) (by omega) ⟨by simp, rows_rep _ _, by rw [bl_rep, tr_zero, zm]⟩
 rw [tr_all (Rp.bd_bl p)] at h3
 obtain ⟨r, t0, t1, t2, t3, t4⟩ := btrim_cano s (by omega) h2
 have e1 : wrap64 (wrap64 ((p.length : Int) + (q.length : Int)) - 1) = ((p.length + q.length - 1 : Nat) : Int) := by
  rw [w64 (x := (p.length : Int) + (q.length : Int)) (by omega) (by omega), w64 (by omega) (by omega)]; omega
 refine ⟨r, Ev.congr (f := fun k => bivariate_Mul.j0 k a p q false) (fun k => ?_) (Ev.step (fun k => ?_) (hs r (Ev.step (f := fun k => (bivariate_trim.f k s).bind fun t => some t) (fun k => ?_) (Ev.bind t0 (Ev.now _))))), t1, t2, t3.trans h3, by omega⟩
 ·simp only [bivariate_Mul.f]
  rw [if_neg (by omega)]
  congr 1
  exact beq_eq_false_iff_ne.mpr (by omega)
 ·simp only [bivariate_Mul.j0]
  rw [if_neg (by simp), e1, if_pos (by omega), if_pos (by omega), Int.toNat_natCast]
  rfl
 ·simp only [bivariate_Mul.l0]
  rw [if_neg (by omega)]
end Go.Proofs.Ytgjphmcofmkmfaa.G
namespace Go.Proofs.Ytgjphmcofmkmfaa.G
open Go.RowKit Go.Proofs.YtgjphmcofmkmfaaW.PrintWords Go.Proofs.YtgjphmcofmkmfaaW.PrintLast Go.Proofs.YtgjphmcofmkmfaaW.PrintMore
open Go.Proofs.Ytgjphmcofmkmfaa.Al
structure Pm (P M : Int) (Mod : List Int) (K : Rp) : Prop where
 p : K.p = P
 m : (K.m : Int) = M
 low : ∀ i, K.low i = Mod.getD i 0
 m8 : K.m ≤ 8
 q256 : K.q ≤ 256
 modl : M ≠ 1 → Mod.length = K.m
 modb : ∀ i, 0 ≤ Mod.getD i 0 ∧ Mod.getD i 0 < K.p
 mod1 : M ≤ 1 → ∀ i, Mod.getD i 0 = 0
 mlen : Mod.length ≤ 8
variable {P M : Int} {Mod : List Int} {K : Rp}
theorem pow_le {p : Int} (hp : 1 ≤ p) {i m : Nat} (h : i ≤ m) : p ^ i ≤ p ^ m := by
 obtain ⟨k, rfl⟩ := Nat.exists_eq_add_of_le h
 rw [Int.pow_add]
 have h1 : 0 < p ^ i := Int.pow_pos (by omega)
 have h2 : 0 < p ^ k := Int.pow_pos (by omega)
 have := Int.mul_le_mul_of_nonneg_left (show 1 ≤ p ^ k by omega) (show 0 ≤ p ^ i by omega)
 omega
theorem Pm.p256 (h : Pm P M Mod K) : K.p ≤ 256 := by
 have h1 := pow_le (p := K.p) (by have := K.p2; omega) K.m1
 have := h.q256
 unfold Rp.q at this
 rw [Int.pow_succ, Int.pow_zero, Int.one_mul] at h1
 omega
theorem order_ev (h : Pm P M Mod K) : Ev (fun k => codewrightref04_Order.f k P M Mod) K.q := by
 have hp := K.p2
 have hp' := h.p256
 have hm := h.m
 have hm1 := K.m1
 have hm8 := h.m8
 have hq := h.q256
 have hP := h.p
 obtain ⟨s, h1, hs⟩ := iterE (G := fun k s i => codewrightref04_Order.l0 k s i P M Mod) (n := K.m) (Inv := fun i s => s = K.p ^ i) (fun i s hi hs => by
  have a1 := pow_le (p := K.p) (by omega) (show i + 1 ≤ K.m by omega)
  rw [Int.pow_succ] at a1
  have a0 : 0 < K.p ^ i := K.pp i
  have a2 : K.p ^ i * K.p ≤ 256 := by unfold Rp.q at hq; omega
  have a3 : 0 ≤ K.p ^ i * K.p := Int.mul_nonneg (by omega) (by omega)
  refine ⟨K.p ^ i * K.p, by rw [Int.pow_succ], fun r hr => Ev.step (fun k => ?_) hr⟩
  have b1 : Int.tdiv (256 : Int) P = 256 / P := Int.tdiv_eq_ediv_of_nonneg (by omega)
  have b2 : K.p ^ i ≤ 256 / P := by rw [← hP]; exact (Int.le_ediv_iff_mul_le (by omega)).2 a2
  have b3 : 256 / P ≤ 256 := Int.ediv_le_self _ (by omega)
  have b4 : 0 ≤ 256 / P := Int.ediv_nonneg (by omega) (by omega)
  simp only [codewrightref04_Order.l0]
  rw [if_pos (by omega), if_neg (by omega), b1, w64 (x := 256 / P) (by omega) (by omega), if_neg (by rw [hs]; omega), hs, ← hP, w64 (by omega) (by omega), w1 (by omega)]) K.m 0 1 (by omega) (by rw [Int.pow_zero])
 refine Ev.congr (f := fun k => codewrightref04_Order.j0 k false P M Mod) (fun k => ?_) (Ev.step (f := fun k => codewrightref04_Order.l0 k 1 ((0 : Nat) : Int) P M Mod) (fun k => ?_) (hs _ (Ev.step (f := fun _ => some s) (fun k => ?_) (by rw [h1]; exact Ev.now _))))
 ·simp only [codewrightref04_Order.f]
  rw [if_neg (by omega), if_neg (by omega)]
  congr 1
  exact decide_eq_false (by omega)
 ·simp only [codewrightref04_Order.j0]
  rw [if_neg (by simp)]
  rfl
 ·simp only [codewrightref04_Order.l0]
  rw [if_neg (by omega)]
theorem in_ev (h : Pm P M Mod K) (x : Int) : Ev (fun k => codewrightref04_In.f k P M Mod x) (K.inn x) := by
 unfold codewrightref04_In.f codewrightref04_Is.f
 by_cases c : x ≥ 0
 ·refine Ev.congr (f := fun k => (codewrightref04_Order.f k P M Mod).bind fun t => if x < t then some x else some 0) (fun k => ?_) (Ev.bind (order_ev h) ?_)
  ·rw [if_pos c]
   cases codewrightref04_Order.f k P M Mod with
   | none => rfl
   | some t => simp only [Option.bind_some, decide_eq_true_eq]
  ·have : K.inn x = if x < K.q then x else 0 := by
    unfold Rp.inn
    by_cases d : x < K.q
    ·rw [if_pos ⟨c, d⟩, if_pos d]
    ·rw [if_neg (fun e => d e.2), if_neg d]
   rw [this]
   refine Ev.congr (f := fun _ => some (if x < K.q then x else 0)) (fun k => ?_) (Ev.now _)
   split <;> rfl
 ·refine Ev.congr (f := fun _ => some 0) (fun k => ?_) ?_
  ·rw [if_neg c, Option.bind_some, if_neg (by simp)]
  ·have : K.inn x = 0 := by unfold Rp.inn; rw [if_neg (fun e => c e.1)]
   rw [this]; exact Ev.now _
def ci (l : List Int) : PS Int := fun i => l.getD i 0
theorem digits_ev (h : Pm P M Mod K) (x : Int) (h0 : 0 ≤ x) (h1 : x < K.q) : ∃ r, Ev (fun k => codewrightref04_digits.f k x P M) r ∧ r.length = K.m ∧ ci r = K.dig x := by
 have hp := K.p2
 have hp' := h.p256
 have hm := h.m
 have hm8 := h.m8
 have hP := h.p
 have hq := h.q256
 obtain ⟨s, ⟨g1, g2, g3⟩, hs⟩ := iterE (G := fun k (s : Int × List Int) i => codewrightref04_digits.l0 k s.1 P M s.2 i) (n := K.m)
  (Inv := fun i s => s.1 = x / K.p ^ i ∧ s.2.length = K.m ∧ ∀ j, s.2.getD j 0 = if j < i then K.dig x j else 0) (fun i s hi ⟨g1, g2, g3⟩ => by
   have b0 : 0 ≤ x / K.p ^ i := Int.ediv_nonneg h0 (Int.le_of_lt (K.pp i))
   have b1 : x / K.p ^ i ≤ x := Int.ediv_le_self _ h0
   refine ⟨(s.1 / K.p, s.2.set i (s.1 % K.p)), ⟨by show s.1 / K.p = _; rw [g1, Int.ediv_ediv_of_nonneg (Int.le_of_lt (K.pp i)), ← Int.pow_succ], by rw [List.length_set, g2], fun j => ?_⟩, fun r hr => Ev.step (fun k => ?_) hr⟩
   ·rw [getD_set _ _ _ _ _ (by omega)]
    by_cases cj : j = i
    ·subst cj
     rw [if_pos rfl, if_pos (by omega), g1]
     unfold Rp.dig
     rw [if_pos hi]
    ·rw [if_neg cj, g3 j]
     by_cases cl : j < i
     ·rw [if_pos cl, if_pos (by omega)]
     ·rw [if_neg cl, if_neg (by omega)]
   ·have c1 : Int.tdiv s.1 P = s.1 / K.p := by rw [hP]; exact Int.tdiv_eq_ediv_of_nonneg (by omega)
    have c2 : Int.tmod s.1 P = s.1 % K.p := by rw [hP]; exact Int.tmod_eq_emod_of_nonneg (by omega)
    have c3 : s.1 / K.p ≤ s.1 := Int.ediv_le_self _ (by omega)
    have c4 : 0 ≤ s.1 / K.p := Int.ediv_nonneg (by omega) (by omega)
    simp only [codewrightref04_digits.l0]
    rw [if_pos (by omega), if_neg (by omega), if_pos (by omega), if_pos (by omega), c1, c2, w64 (by omega) (by omega), w1 (by omega), Int.toNat_natCast]) K.m 0 (x, List.replicate K.m 0) (by omega) ⟨by simp, by simp, fun j => by rw [getD_rep]; simp⟩
 refine ⟨s.2, Ev.congr (fun k => ?_) (hs _ (Ev.step (f := fun _ => some s.2) (fun k => ?_) (Ev.now _))), g2, funext fun j => ?_⟩
 ·simp only [codewrightref04_digits.f]
  rw [if_pos (by omega), if_pos (by omega), ← hm, Int.toNat_natCast]
  rfl
 ·simp only [codewrightref04_digits.l0]
  rw [if_neg (by omega)]
 ·show s.2.getD j 0 = _
  rw [g3 j]
  by_cases c : j < K.m
  ·rw [if_pos c]
  ·rw [if_neg c]; unfold Rp.dig; rw [if_neg c]
theorem Digits_ev (h : Pm P M Mod K) (x : Int) : ∃ r, Ev (fun k => codewrightref04_Digits.f k P M Mod x) r ∧ r.length = K.m ∧ ci r = K.dig (K.inn x) := by
 obtain ⟨r, h0, h1, h2⟩ := digits_ev h (K.inn x) (Rp.inn_bd x).1 (Rp.inn_bd x).2
 exact ⟨r, Ev.bind (in_ev h x) (Ev.bind h0 (Ev.now _)), h1, h2⟩
def hv (p : Int) (v : Nat → Int) : Nat → Nat → Int
 | _, 0 => 0
 | i, n + 1 => hv p v (i + 1) n * p + v i
theorem hv_sm (p : Int) (v : Nat → Int) : ∀ n i, hv p v i n = sm n (fun j => v (i + j) * p ^ j)
 | 0, i => rfl
 | n + 1, i => by
  rw [hv, hv_sm p v n (i + 1), sm_front, Nat.add_zero, Int.pow_zero, Int.mul_one, sm_mulr, Int.add_comm]
  congr 1
  exact sm_congr fun j _ => by
   rw [show i + 1 + j = i + (j + 1) by omega, Int.pow_succ]
   exact Int.mul_assoc _ _ _
theorem hv_bd {p : Int} (hp : 2 ≤ p) {v : Nat → Int} (h0 : ∀ i, 0 ≤ v i) (h1 : ∀ i, v i < p) : ∀ n i, 0 ≤ hv p v i n ∧ hv p v i n < p ^ n
 | 0, i => by simp [hv]
 | n + 1, i => by
  obtain ⟨a, b⟩ := hv_bd hp h0 h1 n (i + 1)
  have c := h0 i
  have d := h1 i
  have e := Int.mul_le_mul_of_nonneg_right (show hv p v (i + 1) n ≤ p ^ n - 1 by omega) (show 0 ≤ p by omega)
  have f := Int.mul_nonneg a (show 0 ≤ p by omega)
  rw [Int.sub_mul, Int.one_mul] at e
  rw [hv, Int.pow_succ]
  omega
theorem value_ev (h : Pm P M Mod K) (l : List Int) (hl : l.length = K.m) (hr : ∀ i, 0 ≤ l.getD i 0 ∧ l.getD i 0 < K.p) : Ev (fun k => codewrightref04_Value.f k P M Mod l) (K.vl K.m (ci l)) := by
 have hp := K.p2
 have hp' := h.p256
 have hm8 := h.m8
 have hP := h.p
 have hq := h.q256
 have key : ∀ i n, i + n = K.m → Ev (fun k => codewrightref04_Value.l0 k l (hv K.p (ci l) i n) ((i : Int) - 1) P M Mod) (hv K.p (ci l) 0 K.m) := by
  intro i
  induction i with
  | zero =>
   intro n hn
   have : n = K.m := by omega
   subst this
   refine Ev.step (f := fun _ => some _) (fun k => ?_) (Ev.now _)
   simp only [codewrightref04_Value.l0]
   rw [if_neg (by omega)]
  | succ i ih =>
   intro n hn
   obtain ⟨a, b⟩ := hv_bd hp (fun i => (hr i).1) (fun i => (hr i).2) n (i + 1)
   obtain ⟨a', b'⟩ := hv_bd hp (fun i => (hr i).1) (fun i => (hr i).2) (n + 1) i
   have c := pow_le (p := K.p) (by omega) (show n + 1 ≤ K.m by omega)
   have d := (hr i).1
   have d' := (hr i).2
   have e : hv K.p (ci l) i (n + 1) = hv K.p (ci l) (i + 1) n * K.p + l.getD i 0 := rfl
   have f := Int.mul_nonneg a (show 0 ≤ K.p by omega)
   have hqq : K.p ^ K.m ≤ 256 := hq
   change 0 ≤ hv K.p (ci l) (i + 1) n at a
   change 0 ≤ hv K.p (ci l) i (n + 1) at a'
   change hv K.p (ci l) i (n + 1) < K.p ^ (n + 1) at b'
   refine Ev.step (fun k => ?_) (ih (n + 1) (by omega))
   simp only [codewrightref04_Value.l0]
   rw [if_pos (by omega), if_pos (by omega), if_pos (by omega), show ((i + 1 : Nat) : Int) - 1 = (i : Int) by omega, rd_nat, ← hP, w64 (x := hv K.p (ci l) (i + 1) n * K.p) (by omega) (by omega), ← e, w64 (x := hv K.p (ci l) i (n + 1)) (by omega) (by omega), w64 (x := (i : Int) - 1) (by omega) (by omega)]
 have e2 : K.vl K.m (ci l) = hv K.p (ci l) 0 K.m := by
  rw [hv_sm]; unfold Rp.vl
  exact sm_congr fun j _ => by rw [Nat.zero_add]
 rw [e2]
 refine Ev.congr (fun k => ?_) (key K.m 0 (by omega))
 simp only [codewrightref04_Value.f]
 rw [hl, w64 (by omega) (by omega)]
 rfl
theorem radd_ev (h : Pm P M Mod K) (x y : Int) : Ev (fun k => codewrightref04_Add.f k P M Mod x y) (K.inE x + K.inE y).1 := by
 have hp := K.p2
 have hp' := h.p256
 have hm8 := h.m8
 have hP := h.p
 obtain ⟨d, d0, d1, d2⟩ := Digits_ev h x
 obtain ⟨e, e0, e1, e2⟩ := Digits_ev h y
 refine Ev.bind d0 (Ev.bind e0 ?_)
 have hd : ∀ j, d.getD j 0 = K.dig (K.inn x) j := fun j => congrFun d2 j
 have he : ∀ j, e.getD j 0 = K.dig (K.inn y) j := fun j => congrFun e2 j
 obtain ⟨s, ⟨g1, g2⟩, hs⟩ := iterE (G := fun k s i => codewrightref04_Add.l0 k s e i P M Mod) (n := K.m)
  (Inv := fun i s => s.length = K.m ∧ ∀ j, s.getD j 0 = if j < i then (K.dig (K.inn x) j + K.dig (K.inn y) j) % K.p else K.dig (K.inn x) j) (fun i s hi ⟨g1, g2⟩ => by
   have b1 := K.dig_nonneg (K.inn x) i
   have b2 := K.dig_lt (K.inn x) i
   have b3 := K.dig_nonneg (K.inn y) i
   have b4 := K.dig_lt (K.inn y) i
   have gi : s.getD i 0 = K.dig (K.inn x) i := by rw [g2 i, if_neg (by omega)]
   refine ⟨s.set i ((K.dig (K.inn x) i + K.dig (K.inn y) i) % K.p), ⟨by rw [List.length_set, g1], fun j => ?_⟩, fun r hr => Ev.step (fun k => ?_) hr⟩
   ·rw [getD_set _ _ _ _ _ (by omega)]
    by_cases cj : j = i
    ·subst cj; rw [if_pos rfl, if_pos (by omega)]
    ·rw [if_neg cj, g2 j]
     by_cases cl : j < i
     ·rw [if_pos cl, if_pos (by omega)]
     ·rw [if_neg cl, if_neg (by omega)]
   ·have c2 : Int.tmod (K.dig (K.inn x) i + K.dig (K.inn y) i) P = (K.dig (K.inn x) i + K.dig (K.inn y) i) % K.p := by rw [hP]; exact Int.tmod_eq_emod_of_nonneg (by omega)
    simp only [codewrightref04_Add.l0]
    rw [if_pos (by omega), if_pos (by omega), if_pos (by omega), if_neg (by omega), rd_nat, rd_nat, gi, he i, w64 (x := K.dig (K.inn x) i + K.dig (K.inn y) i) (by omega) (by omega), c2, w1 (by omega), Int.toNat_natCast]) K.m 0 d (by omega) ⟨d1, fun j => by rw [if_neg (by omega), hd j]⟩
 have hr : ∀ i, 0 ≤ s.getD i 0 ∧ s.getD i 0 < K.p := fun i => by
  rw [g2 i]
  split
  ·exact ⟨Int.emod_nonneg _ (by omega), Int.emod_lt_of_pos _ (by omega)⟩
  ·exact ⟨K.dig_nonneg _ _, K.dig_lt _ _⟩
 have ev : K.vl K.m (ci s) = (K.inE x + K.inE y).1 := by
  rw [Rp.add_el]
  unfold Rp.el Rp.vl
  exact sm_congr fun j hj => by
   show s.getD j 0 * _ = (K.dig (K.inn x) j + K.dig (K.inn y) j) % K.p * _
   rw [g2 j, if_pos hj]
 rw [← ev]
 refine hs _ (Ev.step (f := fun k => (codewrightref04_Value.f k P M Mod s).bind fun t => some t) (fun k => ?_) (Ev.bind (value_ev h s g1 hr) (Ev.now _)))
 simp only [codewrightref04_Add.l0]
 rw [if_neg (by omega)]
end Go.Proofs.Ytgjphmcofmkmfaa.G
namespace Go.Proofs.Ytgjphmcofmkmfaa.G
open Go.RowKit Go.Proofs.YtgjphmcofmkmfaaW.PrintWords Go.Proofs.YtgjphmcofmkmfaaW.PrintLast Go.Proofs.YtgjphmcofmkmfaaW.PrintMore
open Go.Proofs.Ytgjphmcofmkmfaa.Al
variable {P M : Int} {Mod : List Int} {K : Rp}
theorem wsub {m n : Nat} {M : Int} (hm : (m : Int) = M) (h : m + n ≤ 1000000000) : wrap64 (((m + n : Nat) : Int) - M) = (n : Int) := by rw [w64 (by omega) (by omega)]; omega
theorem wadd {n j : Nat} (h : n + j ≤ 1000000000) : wrap64 ((n : Int) + (j : Int)) = ((n + j : Nat) : Int) := by rw [w64 (by omega) (by omega)]; omega
theorem weq {x y : Int} (e : x = y) (h : -9223372036854775808 ≤ x) (h' : x ≤ 9223372036854775807) : wrap64 x = y := by rw [w64 h h', e]
theorem tmod_p {x p P : Int} (e : p = P) (h : 0 ≤ x) : Int.tmod x P = x % p := by rw [e]; exact Int.tmod_eq_emod_of_nonneg h
theorem ci_at (l : List Int) (i : Nat) : ci l i = l.getD i 0 := rfl
theorem ci_set {l : List Int} {i : Nat} (hi : i < l.length) (v : Int) (j : Nat) : ci (l.set i v) j = if j = i then v else ci l j := getD_set _ _ _ _ _ hi
theorem ci_bd (l : List Int) : Bd (ci l) l.length := fun _ hi => getD_none hi 0
theorem mod_dvd (p x : Int) : p ∣ x % p + -x := ⟨-(x / p), by have := Int.emod_add_mul_ediv x p; rw [Int.mul_neg]; omega⟩
theorem int_emod_bd {p : Int} (hp : 0 < p) (x : Int) : 0 ≤ x % p ∧ x % p < p := ⟨Int.emod_nonneg _ (by omega), Int.emod_lt_of_pos _ hp⟩
theorem cg_set {l : List Int} {i : Nat} (hi : i < l.length) (z : Int) : K.Cg (ci (l.set i ((ci l i + z) % K.p))) (ci l + mon i z) := K.cg_mod fun j => by
 rw [ps_add, mon_at, ci_set hi]
 by_cases c : j = i
 ·subst c; rw [if_pos rfl, if_pos rfl]; exact mod_dvd _ _
 ·rw [if_neg c, if_neg c, az, an]; exact Int.dvd_zero _
theorem tr_set {l : List Int} {i n : Nat} (hi : i < l.length) (hn : i < n) (v : Int) (j : Nat) : tr n (ci (l.set i v)) j = if j = i then v else tr n (ci l) j := by
 unfold tr
 rw [ci_set hi]
 by_cases c : j = i
 ·subst c; rw [if_pos rfl, if_pos hn, if_pos rfl]
 ·rw [if_neg c, if_neg c]
theorem cg_set_tr {l : List Int} {i n : Nat} (hi : i < l.length) (hn : i < n) (z : Int) : K.Cg (tr n (ci (l.set i ((ci l i + z) % K.p)))) (tr n (ci l) + mon i z) := K.cg_mod fun j => by
 rw [ps_add, mon_at, tr_set hi hn]
 by_cases c : j = i
 ·subst c
  rw [if_pos rfl, if_pos rfl]
  have : tr n (ci l) j = ci l j := if_pos hn
  rw [this]
  exact mod_dvd _ _
 ·rw [if_neg c, if_neg c, az, an]; exact Int.dvd_zero _
theorem cg_reduce (n : Nat) (f : PS Int) (c : Int) : K.Cg (f + mon n (K.p + -c) * K.lw) (f + mon (K.m + n) c) := by
 refine K.cg_add (K.cg_refl f) (K.cg_symm ?_)
 have e : mon (K.m + n) c = K.mp * mon n c + mon n (-c) * K.lw := by
  unfold Rp.mp
  rw [dm, mon_mon, om, mon_neg, nm, aa, mc K.lw, an, az]
 rw [e]
 have h1 := K.cg_add (K.cg_mp (Bd.mon n c)) (K.cg_refl (mon n (-c) * K.lw))
 rw [za] at h1
 refine K.cg_trans h1 (K.cg_mod fun i => ?_)
 rw [mon_mul, mon_mul]
 by_cases d : n ≤ i
 ·rw [if_pos d, if_pos d, dm, nadd, alc, an, az]
  exact Int.dvd_neg.mpr (Int.dvd_mul_right _ _)
 ·rw [if_neg d, if_neg d, an]; exact Int.dvd_zero _
set_option maxHeartbeats 100000 in
theorem rmul_top (h : Pm P M Mod K) (X Y : K.E) : ∀ n (s : List Int), s.length = 2 * K.m - 1 → (∀ i, 0 ≤ s.getD i 0 ∧ s.getD i 0 < K.p) → K.m + n ≤ 2 * K.m - 1 → K.Cg (tr (K.m + n) (ci s)) (K.dig X.1 * K.dig Y.1) →
  Ev (fun k => codewrightref04_Mul.l2 k s (((K.m + n : Nat) : Int) - 1) P M Mod) (X * Y).1
 | 0, s, hl, hr, hn, hc => by
  have hm := h.m
  have hm1 := K.m1
  have hm8 := h.m8
  have e1 : (X * Y).1 = K.vl K.m (ci (s.take K.m)) := by
   rw [Rp.mul_el (v := tr K.m (ci s)) (fun i hi => if_neg (by omega)) hc]
   unfold Rp.el Rp.vl
   exact sm_congr fun j hj => by
    show tr K.m (ci s) j % K.p * _ = _
    have a1 : tr K.m (ci s) j = s.getD j 0 := if_pos hj
    have a2 : ci (s.take K.m) j = s.getD j 0 := by rw [ci_at, take_getD, if_pos hj]
    rw [a1, a2, Int.emod_eq_of_lt (hr j).1 (hr j).2]
  rw [e1]
  refine Ev.step (f := fun k => (codewrightref04_Value.f k P M Mod (s.take K.m)).bind fun t => some t) (fun k => ?_) (Ev.bind (value_ev h _ (by rw [List.length_take]; omega) (fun i => ?_)) (Ev.now _))
  ·simp only [codewrightref04_Mul.l2]
   rw [if_neg (by omega), if_pos (by omega), if_pos (by omega), ← hm, Int.toNat_natCast]
  ·rw [take_getD]
   have := K.p2
   split
   ·exact hr i
   ·omega
 | n + 1, s, hl, hr, hn, hc => by
  have hp := K.p2
  have hp' := h.p256
  have hm := h.m
  have hm1 := K.m1
  have hm8 := h.m8
  have hP := h.p
  obtain ⟨c, hcdef⟩ : ∃ c, c = s.getD (K.m + n) 0 := ⟨_, rfl⟩
  have hc0 : 0 ≤ c ∧ c < K.p := by rw [hcdef]; exact hr _
  have hML : Mod.length = K.m := h.modl (by omega)
  obtain ⟨s2, ⟨g1, g2, g3, g4⟩, hs2⟩ := iterE (G := fun k s j => codewrightref04_Mul.l3 k s ((K.m + n : Nat) : Int) j P M Mod) (n := K.m)
   (Inv := fun j s2 => s2.length = 2 * K.m - 1 ∧ (∀ i, 0 ≤ s2.getD i 0 ∧ s2.getD i 0 < K.p) ∧ s2.getD (K.m + n) 0 = c ∧ K.Cg (tr (K.m + n) (ci s2)) (tr (K.m + n) (ci s) + mon n (K.p + -c) * tr j K.lw)) (fun j s2 hj ⟨g1, g2, g3, g4⟩ => by
    have b0 := g2 (n + j)
    have bm := h.modb j
    have lwj : K.lw j = Mod.getD j 0 := by unfold Rp.lw; rw [if_pos hj, h.low]
    have m1 : 0 ≤ (K.p + -c) * Mod.getD j 0 := Int.mul_nonneg (by omega) bm.1
    have m2 : (K.p + -c) * Mod.getD j 0 ≤ 256 * 256 := Int.mul_le_mul (by omega) (by omega) bm.1 (by omega)
    refine ⟨s2.set (n + j) ((ci s2 (n + j) + (K.p + -c) * Mod.getD j 0) % K.p), ⟨by rw [List.length_set, g1], fun i => ?_, ?_, ?_⟩, fun r hr' => Ev.step (fun k => ?_) hr'⟩
    ·rw [getD_set _ _ _ _ _ (by omega)]
     split
     ·exact int_emod_bd (by omega) _
     ·exact g2 i
    ·rw [getD_set _ _ _ _ _ (by omega), if_neg (by omega)]; exact g3
    ·refine K.cg_trans (cg_set_tr (by omega) (by omega) _) ?_
     rw [tr_succ, md, mon_mon, lwj, ← aa]
     exact K.cg_add g4 (K.cg_refl _)
    ·simp only [codewrightref04_Mul.l3]
     rw [if_pos (by omega), wsub hm (by omega), wadd (by omega), if_pos (by omega), if_pos (by omega), if_pos (by omega), if_pos (by omega), if_pos (by omega), if_pos (by omega), if_neg (by omega), rd_nat, rd_nat, rd_nat, weq (x := P - s2.getD (K.m + n) 0) (y := K.p + -c) (by omega) (by omega) (by omega), w64 (x := (K.p + -c) * Mod.getD j 0) (by omega) (by omega), w64 (x := s2.getD (n + j) 0 + (K.p + -c) * Mod.getD j 0) (by omega) (by omega), tmod_p hP (by omega), w1 (by omega), Int.toNat_natCast]; rfl) K.m 0 s (by omega) ⟨hl, hr, hcdef.symm, by rw [tr_zero, mz, az]; exact K.cg_refl _⟩
  rw [tr_all K.bd_lw] at g4
  have g5 : K.Cg (tr (K.m + n) (ci s2)) (K.dig X.1 * K.dig Y.1) := by
   refine K.cg_trans g4 (K.cg_trans (cg_reduce n _ c) ?_)
   have e : tr (K.m + (n + 1)) (ci s) = tr (K.m + n) (ci s) + mon (K.m + n) c := by
    rw [← Nat.add_assoc, tr_succ, hcdef]; rfl
   rw [← e]; exact hc
  have last := rmul_top h X Y n s2 g1 g2 (by omega) g5
  refine Ev.step (f := fun k => codewrightref04_Mul.l3 k s ((K.m + n : Nat) : Int) ((0 : Nat) : Int) P M Mod) (fun k => ?_) (hs2 _ (Ev.step (fun k => ?_) last))
  ·simp only [codewrightref04_Mul.l2]
   rw [if_pos (by omega), show ((K.m + (n + 1) : Nat) : Int) - 1 = ((K.m + n : Nat) : Int) by omega]
   rfl
  ·simp only [codewrightref04_Mul.l3]
   rw [if_neg (by omega), w64 (x := ((K.m + n : Nat) : Int) - 1) (by omega) (by omega)]
set_option maxHeartbeats 100000 in
theorem rmul_ev (h : Pm P M Mod K) (x y : Int) : Ev (fun k => codewrightref04_Mul.f k P M Mod x y) (K.inE x * K.inE y).1 := by
 have hp := K.p2
 have hp' := h.p256
 have hm := h.m
 have hm1 := K.m1
 have hm8 := h.m8
 have hP := h.p
 obtain ⟨d, d0, d1, d2⟩ := Digits_ev h x
 obtain ⟨e, e0, e1, e2⟩ := Digits_ev h y
 have hd : ∀ j, d.getD j 0 = K.dig (K.inn x) j := fun j => congrFun d2 j
 have he : ∀ j, e.getD j 0 = K.dig (K.inn y) j := fun j => congrFun e2 j
 refine Ev.bind d0 (Ev.bind e0 ?_)
 obtain ⟨s, ⟨g1, g2, g3⟩, hs⟩ := iterE (G := fun k s i => codewrightref04_Mul.l0 k d e s i P M Mod) (n := K.m)
  (Inv := fun i s => s.length = 2 * K.m - 1 ∧ (∀ i, 0 ≤ s.getD i 0 ∧ s.getD i 0 < K.p) ∧ K.Cg (ci s) (tr i (K.dig (K.inn x)) * K.dig (K.inn y))) (fun i s hi ⟨g1, g2, g3⟩ => by
   obtain ⟨s2, ⟨k1, k2, k3⟩, hs2⟩ := iterE (G := fun k s j => codewrightref04_Mul.l1 k d e s (i : Int) j P M Mod) (n := K.m)
    (Inv := fun j s => s.length = 2 * K.m - 1 ∧ (∀ i, 0 ≤ s.getD i 0 ∧ s.getD i 0 < K.p) ∧ K.Cg (ci s) (tr i (K.dig (K.inn x)) * K.dig (K.inn y) + mon i (K.dig (K.inn x) i) * tr j (K.dig (K.inn y)))) (fun j s hj ⟨g1, g2, g3⟩ => by
     have b0 := g2 (i + j)
     have b1 := K.dig_nonneg (K.inn x) i
     have b2 := K.dig_lt (K.inn x) i
     have b3 := K.dig_nonneg (K.inn y) j
     have b4 := K.dig_lt (K.inn y) j
     have m1 : 0 ≤ K.dig (K.inn x) i * K.dig (K.inn y) j := Int.mul_nonneg b1 b3
     have m2 : K.dig (K.inn x) i * K.dig (K.inn y) j ≤ 256 * 256 := Int.mul_le_mul (by omega) (by omega) b3 (by omega)
     refine ⟨s.set (i + j) ((ci s (i + j) + K.dig (K.inn x) i * K.dig (K.inn y) j) % K.p), ⟨by rw [List.length_set, g1], fun t => ?_, ?_⟩, fun r hr => Ev.step (fun k => ?_) hr⟩
     ·rw [getD_set _ _ _ _ _ (by omega)]
      split
      ·exact int_emod_bd (by omega) _
      ·exact g2 t
     ·refine K.cg_trans (cg_set (by omega) _) ?_
      rw [tr_succ, md, mon_mon, ← aa]
      exact K.cg_add g3 (K.cg_refl _)
     ·simp only [codewrightref04_Mul.l1]
      rw [if_pos (by omega), wadd (by omega), if_pos (by omega), if_pos (by omega), if_pos (by omega), if_pos (by omega), if_pos (by omega), if_pos (by omega), if_neg (by omega), rd_nat, rd_nat, rd_nat, hd, he, w64 (x := K.dig (K.inn x) i * K.dig (K.inn y) j) (by omega) (by omega), w64 (x := s.getD (i + j) 0 + K.dig (K.inn x) i * K.dig (K.inn y) j) (by omega) (by omega), tmod_p hP (by omega), w1 (by omega), Int.toNat_natCast]; rfl) K.m 0 s (by omega) ⟨g1, g2, by rw [tr_zero, mz, az]; exact g3⟩
   rw [tr_all (K.bd_dig _), ← dm, ← tr_succ] at k3
   refine ⟨s2, ⟨k1, k2, k3⟩, fun r hr => Ev.step (f := fun k => codewrightref04_Mul.l1 k d e s (i : Int) ((0 : Nat) : Int) P M Mod) (fun k => ?_) (hs2 r (Ev.step (fun k => ?_) hr))⟩
   ·simp only [codewrightref04_Mul.l0]
    rw [if_pos (by omega)]
    rfl
   ·simp only [codewrightref04_Mul.l1]
    rw [if_neg (by omega), w1 (by omega)]) K.m 0 (List.replicate (2 * K.m - 1) 0) (by omega) ⟨by simp, fun i => by rw [getD_rep]; omega, by
     rw [tr_zero, zm]
     have : ci (List.replicate (2 * K.m - 1) 0) = 0 := funext fun i => getD_rep _ _ _
     rw [this]; exact K.cg_refl _⟩
 rw [tr_all (K.bd_dig _)] at g3
 have top := rmul_top h (K.inE x) (K.inE y) (K.m - 1) s g1 g2 (by omega) (by
  have : tr (K.m + (K.m - 1)) (ci s) = ci s := tr_all ((ci_bd s).mono (by omega))
  rw [this]; exact g3)
 refine Ev.congr (fun k => ?_) (hs _ (Ev.step (fun k => ?_) top))
 ·rw [w64 (x := 2 * M) (by omega) (by omega), weq (x := 2 * M - 1) (y := ((2 * K.m - 1 : Nat) : Int)) (by omega) (by omega) (by omega), if_pos (by omega), if_pos (by omega), Int.toNat_natCast]
  rfl
 ·simp only [codewrightref04_Mul.l0]
  rw [if_neg (by omega), w64 (x := 2 * M) (by omega) (by omega), weq (x := 2 * M - 2) (y := ((K.m + (K.m - 1) : Nat) : Int) - 1) (by omega) (by omega) (by omega)]
end Go.Proofs.Ytgjphmcofmkmfaa.G
namespace Go.Proofs.Ytgjphmcofmkmfaa.G
open Go.RowKit Go.Proofs.YtgjphmcofmkmfaaW.PrintWords Go.Proofs.YtgjphmcofmkmfaaW.PrintLast Go.Proofs.YtgjphmcofmkmfaaW.PrintMore
open Go.Proofs.Ytgjphmcofmkmfaa.Al
variable {P M : Int} {Mod : List Int} {K : Rp}
theorem rcanon_ev (h : Pm P M Mod K) (p : List Int) (hp : p.length ≤ 1000000) : ∃ r, Ev (fun k => codewrightref05_Canon.f k P M Mod p) r ∧ K.Cano r ∧ K.pl r = K.pl p ∧ r.length ≤ p.length := by
 obtain ⟨s, ⟨n, rfl, g1, g2, g3⟩, hs⟩ := iterE (G := fun k s i => codewrightref05_Canon.l0 k p s i P M Mod) (n := p.length)
  (Inv := fun i s => ∃ n : Nat, s = (n : Int) ∧ n ≤ i ∧ (∀ j, n ≤ j → j < i → K.inn (p.getD j 0) = 0) ∧ (n ≠ 0 → K.inn (p.getD (n - 1) 0) ≠ 0)) (fun i s hi ⟨n, e, g1, g2, g3⟩ => by
   subst e
   by_cases c : K.inn (p.getD i 0) = 0
   ·refine ⟨(n : Int), ⟨n, rfl, by omega, fun j h1 h2 => ?_, g3⟩, fun r hr => Ev.step (f := fun k => (codewrightref04_In.f k P M Mod (p.getD i 0)).bind fun t => if t = 0 then codewrightref05_Canon.l0 k p (n : Int) ((i + 1 : Nat) : Int) P M Mod else codewrightref05_Canon.l0 k p ((i + 1 : Nat) : Int) ((i + 1 : Nat) : Int) P M Mod) (fun k => ?_) (Ev.bind (in_ev h _) (Ev.congr (fun k => ?_) hr))⟩
    ·by_cases e : j = i
     ·subst e; exact c
     ·exact g2 j h1 (by omega)
    ·simp only [codewrightref05_Canon.l0]
     rw [if_pos (by omega), if_pos (by omega), rd_nat, w1 (by omega)]
    ·rw [if_pos c]
   ·refine ⟨((i + 1 : Nat) : Int), ⟨i + 1, rfl, by omega, fun j h1 h2 => by omega, fun _ => by rw [Nat.add_sub_cancel]; exact c⟩, fun r hr => Ev.step (f := fun k => (codewrightref04_In.f k P M Mod (p.getD i 0)).bind fun t => if t = 0 then codewrightref05_Canon.l0 k p (n : Int) ((i + 1 : Nat) : Int) P M Mod else codewrightref05_Canon.l0 k p ((i + 1 : Nat) : Int) ((i + 1 : Nat) : Int) P M Mod) (fun k => ?_) (Ev.bind (in_ev h _) (Ev.congr (fun k => ?_) hr))⟩
    ·simp only [codewrightref05_Canon.l0]
     rw [if_pos (by omega), if_pos (by omega), rd_nat, w1 (by omega)]
    ·rw [if_neg c]) p.length 0 ((0 : Nat) : Int) (by omega) ⟨0, rfl, by omega, fun j _ h2 => by omega, fun h0 => absurd rfl h0⟩
 obtain ⟨s, ⟨k1, k2⟩, hs2⟩ := iterE (G := fun k s i => codewrightref05_Canon.l1 k p (n : Int) s i P M Mod) (n := n)
  (Inv := fun i s => s.length = n ∧ ∀ j, s.getD j 0 = if j < i then K.inn (p.getD j 0) else 0) (fun i s hi ⟨k1, k2⟩ => by
   refine ⟨s.set i (K.inn (p.getD i 0)), ⟨by rw [List.length_set, k1], fun j => ?_⟩, fun r hr => Ev.step (f := fun k => (codewrightref04_In.f k P M Mod (p.getD i 0)).bind fun t => if (i : Int) < (s.length : Int) then codewrightref05_Canon.l1 k p (n : Int) (s.set i t) ((i + 1 : Nat) : Int) P M Mod else none) (fun k => ?_) (Ev.bind (in_ev h _) (Ev.congr (fun k => ?_) hr))⟩
   ·rw [getD_set _ _ _ _ _ (by omega), k2 j]
    by_cases cj : j = i
    ·subst cj; rw [if_pos rfl, if_pos (by omega)]
    ·rw [if_neg cj]
     by_cases cl : j < i
     ·rw [if_pos cl, if_pos (by omega)]
     ·rw [if_neg cl, if_neg (by omega)]
   ·simp only [codewrightref05_Canon.l1]
    rw [if_pos (by omega), if_pos (by omega), if_pos (by omega), rd_nat, w1 (by omega), Int.toNat_natCast]
   ·rw [if_pos (by omega)]) n 0 (List.replicate n 0) (by omega) ⟨by simp, fun j => by rw [getD_rep]; simp⟩
 have hg : ∀ j, s.getD j 0 = K.inn (p.getD j 0) := fun j => by
  rw [k2 j]
  by_cases c : j < n
  ·rw [if_pos c]
  ·rw [if_neg c]
   by_cases d : j < p.length
   ·exact (g2 j (by omega) d).symm
   ·rw [getD_none (by omega)]; exact Rp.inn_zero.symm
 refine ⟨s, Ev.congr (fun k => ?_) (hs _ (Ev.step (fun k => ?_) (hs2 _ (Ev.step (f := fun _ => some s) (fun k => ?_) (Ev.now _))))), ⟨fun x hx => ?_, fun hne => ?_⟩, funext fun j => ?_, by omega⟩
 ·rfl
 ·simp only [codewrightref05_Canon.l0]
  rw [if_neg (by omega), if_pos (by omega), if_pos (by omega), Int.toNat_natCast]
  rfl
 ·simp only [codewrightref05_Canon.l1]
  rw [if_neg (by omega)]
 ·obtain ⟨i, _, rfl⟩ := mem_getD hx
  rw [hg i]; exact Rp.inn_bd _
 ·have := List.length_pos_iff.mpr hne
  rw [hg, k1]
  exact g3 (by omega)
 ·show K.inE _ = K.inE _
  rw [hg j]
  exact Rp.E.val_inj (Rp.inn_inn _)
theorem rdegree_ev (h : Pm P M Mod K) (p : List Int) (hp : p.length ≤ 1000000) : ∃ r, K.Cano r ∧ K.pl r = K.pl p ∧ r.length ≤ p.length ∧ Ev (fun k => codewrightref05_Degree.f k P M Mod p) ((r.length : Int) - 1) := by
 obtain ⟨r, h0, h1, h2, h3⟩ := rcanon_ev h p hp
 refine ⟨r, h1, h2, h3, Ev.bind h0 ?_⟩
 rw [w64 (by omega) (by omega)]
 exact Ev.now _
theorem at_ev (h : Pm P M Mod K) (l : List Int) (i : Nat) : Ev (fun k => codewrightref05_At.f k P M Mod l (i : Int)) (K.inn (l.getD i 0)) := by
 unfold codewrightref05_At.f
 by_cases c : i < l.length
 ·refine Ev.congr (f := fun k => (codewrightref04_In.f k P M Mod (l.getD i 0)).bind fun t => some t) (fun k => ?_) (Ev.bind (in_ev h _) (Ev.now _))
  rw [if_neg (by omega), if_neg (by omega), if_pos (by omega), if_pos (by omega), rd_nat]
 ·refine Ev.congr (f := fun _ => some 0) (fun k => ?_) ?_
  ·rw [if_neg (by omega), if_pos (by omega)]
  ·rw [getD_none (by omega), Rp.inn_zero]; exact Ev.now _
theorem inE_inn (x : Int) : K.inE (K.inn x) = K.inE x := Rp.E.val_inj (Rp.inn_inn x)
theorem radd5_ev (h : Pm P M Mod K) (p q : List Int) (hp : p.length ≤ 1000000) (hq : q.length ≤ 1000000) : ∃ r, Ev (fun k => codewrightref05_Add.f k P M Mod p q) r ∧ K.Cano r ∧ K.pl r = K.pl p + K.pl q ∧ r.length ≤ max p.length q.length := by
 have hm : (mx (p.length : Int) (q.length : Int)) = ((max p.length q.length : Nat) : Int) := by unfold mx; split <;> omega
 obtain ⟨N, hN⟩ : ∃ N, N = max p.length q.length := ⟨_, rfl⟩
 obtain ⟨s, ⟨g1, g3⟩, hs⟩ := iterE (G := fun k s i => codewrightref05_Add.l0 k p q s i P M Mod) (n := N)
  (Inv := fun i s => s.length = N ∧ K.pl s = tr i (K.pl p + K.pl q)) (fun i s hi ⟨g1, g3⟩ => by
   have hz : K.pl s i = 0 := by rw [g3]; exact if_neg (by omega)
   refine ⟨s.set i (K.pl s i + (K.pl p i + K.pl q i)).1, ⟨by rw [List.length_set, g1], by rw [pl_set (by omega), g3, tr_succ]; rfl⟩, fun r hr => Ev.step (f := fun k => (codewrightref05_At.f k P M Mod p (i : Int)).bind fun t => (codewrightref05_At.f k P M Mod q (i : Int)).bind fun u => (codewrightref04_Add.f k P M Mod t u).bind fun v => codewrightref05_Add.l0 k p q (s.set i v) ((i + 1 : Nat) : Int) P M Mod) (fun k => ?_) (Ev.bind (at_ev h p i) (Ev.bind (at_ev h q i) (Ev.bind (radd_ev h _ _) ?_)))⟩
   ·simp only [codewrightref05_Add.l0]
    rw [if_pos (by omega), w1 (by omega), Int.toNat_natCast]
    simp only [if_pos (show (0 : Int) ≤ (i : Int) by omega)]
   ·rw [inE_inn, inE_inn]
    rw [hz, za] at hr
    exact hr) N 0 (List.replicate N 0) (by omega) ⟨by simp, by rw [pl_rep, tr_zero]⟩
 have hbd : Bd (K.pl p + K.pl q) N := ((Rp.bd_pl p).mono (by omega)).add ((Rp.bd_pl q).mono (by omega))
 rw [tr_all hbd] at g3
 obtain ⟨r, t0, t1, t2, t3⟩ := rcanon_ev h s (by omega)
 refine ⟨r, Ev.congr (fun k => ?_) (hs _ (Ev.step (f := fun k => (codewrightref05_Canon.f k P M Mod s).bind fun t => some t) (fun k => ?_) (Ev.bind t0 (Ev.now _)))), t1, t2.trans g3, by omega⟩
 ·simp only [codewrightref05_Add.f]
  rw [hm, if_pos (by omega), if_pos (by omega), Int.toNat_natCast, hN]
  rfl
 ·simp only [codewrightref05_Add.l0]
  rw [if_neg (by omega)]
theorem rmul5_ev (h : Pm P M Mod K) (p q : List Int) (hp : p.length ≤ 100000) (hq : q.length ≤ 100000) : ∃ r, Ev (fun k => codewrightref05_Mul.f k P M Mod p q) r ∧ K.Cano r ∧ K.pl r = K.pl p * K.pl q ∧ r.length ≤ p.length + q.length := by
 obtain ⟨p', a0, a1, a2, a3⟩ := rcanon_ev h p (by omega)
 obtain ⟨q', b0, b1, b2, b3⟩ := rcanon_ev h q (by omega)
 rw [← a2, ← b2]
 obtain ⟨s, ⟨h1, h3⟩, hs⟩ := iterE (G := fun k s i => codewrightref05_Mul.l0 k p' q' s i P M Mod) (n := p'.length)
  (Inv := fun i s => s.length = p'.length + q'.length ∧ K.pl s = tr i (K.pl p') * K.pl q') (fun i s hi ⟨h1, h3⟩ => by
   obtain ⟨s2, ⟨g1, g3⟩, hs2⟩ := iterE (G := fun k s j => codewrightref05_Mul.l1 k p' q' s (i : Int) j P M Mod) (n := q'.length)
    (Inv := fun j s => s.length = p'.length + q'.length ∧ K.pl s = tr i (K.pl p') * K.pl q' + mon i (K.pl p' i) * tr j (K.pl q')) (fun j s hj ⟨h1, h3⟩ => by
     refine ⟨s.set (i + j) (K.pl s (i + j) + K.pl p' i * K.pl q' j).1, ⟨by rw [List.length_set, h1], by rw [pl_set (by omega), h3, tr_succ, md, mon_mon, aa]⟩, fun r hr => Ev.step (f := fun k => (codewrightref04_Mul.f k P M Mod (p'.getD i 0) (q'.getD j 0)).bind fun t => (codewrightref04_Add.f k P M Mod (s.getD (i + j) 0) t).bind fun u => codewrightref05_Mul.l1 k p' q' (s.set (i + j) u) (i : Int) ((j + 1 : Nat) : Int) P M Mod) (fun k => ?_) (Ev.bind (rmul_ev h _ _) (Ev.bind (radd_ev h _ _) ?_))⟩
     ·simp only [codewrightref05_Mul.l1]
      rw [if_pos (by omega), wadd (by omega), if_pos (by omega), if_pos (by omega), if_pos (by omega), if_pos (by omega), if_pos (by omega), rd_nat, rd_nat, rd_nat, Int.toNat_natCast, w1 (by omega)]
     ·rw [inE_inE]; exact hr) q'.length 0 s (by omega) ⟨h1, by rw [h3, tr_zero, mz, az]⟩
   rw [tr_all (Rp.bd_pl q'), ← dm, ← tr_succ] at g3
   refine ⟨s2, ⟨g1, g3⟩, fun r hr => Ev.step (f := fun k => codewrightref05_Mul.l1 k p' q' s (i : Int) ((0 : Nat) : Int) P M Mod) (fun k => ?_) (hs2 r (Ev.step (fun k => ?_) hr))⟩
   ·simp only [codewrightref05_Mul.l0]
    rw [if_pos (by omega)]
    rfl
   ·simp only [codewrightref05_Mul.l1]
    rw [if_neg (by omega), w1 (by omega)]) p'.length 0 (List.replicate (p'.length + q'.length) 0) (by omega) ⟨by simp, by rw [pl_rep, tr_zero, zm]⟩
 rw [tr_all (Rp.bd_pl p')] at h3
 obtain ⟨r, t0, t1, t2, t3⟩ := rcanon_ev h s (by omega)
 refine ⟨r, Ev.bind a0 (Ev.bind b0 (Ev.congr (fun k => ?_) (hs _ (Ev.step (f := fun k => (codewrightref05_Canon.f k P M Mod s).bind fun t => some t) (fun k => ?_) (Ev.bind t0 (Ev.now _)))))), t1, t2.trans h3, by omega⟩
 ·rw [wadd (by omega), if_pos (by omega), if_pos (by omega), Int.toNat_natCast]
  rfl
 ·simp only [codewrightref05_Mul.l0]
  rw [if_neg (by omega)]
theorem cano_empty {l : List Int} (h : K.Cano l) : K.pl l = 0 ↔ l = [] := ⟨Rp.cano_zero h, fun e => by rw [e]; exact Rp.pl_nil⟩
theorem rcanon40_ev (h : Pm P M Mod K) {B : Nat} (hB : B ≤ 1000000) (p : List (List Int)) (hp : p.length ≤ 1000000) (hl : Len B p) : ∃ r, Ev (fun k => codewrightref40_Canon.f k P M Mod p) r ∧ K.BCano r ∧ Rows K B r ∧ K.bl r = K.bl p ∧ r.length ≤ p.length := by
 obtain ⟨s, ⟨n, rfl, g1, g2, g3⟩, hs⟩ := iterE (G := fun k s i => codewrightref40_Canon.l0 k p s i P M Mod) (n := p.length)
  (Inv := fun i s => ∃ n : Nat, s = (n : Int) ∧ n ≤ i ∧ (∀ j, n ≤ j → j < i → K.bl p j = 0) ∧ (n ≠ 0 → K.bl p (n - 1) ≠ 0)) (fun i s hi ⟨n, e, g1, g2, g3⟩ => by
   subst e
   obtain ⟨t, c0, c1, c2, c3⟩ := rdegree_ev h (p.getD i []) (Nat.le_trans (len_at hl i) hB)
   by_cases c : t = []
   ·refine ⟨(n : Int), ⟨n, rfl, by omega, fun j h1 h2 => ?_, g3⟩, fun r hr => Ev.step (f := fun k => (codewrightref05_Degree.f k P M Mod (p.getD i [])).bind fun t => if t ≥ 0 then codewrightref40_Canon.l0 k p ((i + 1 : Nat) : Int) ((i + 1 : Nat) : Int) P M Mod else codewrightref40_Canon.l0 k p (n : Int) ((i + 1 : Nat) : Int) P M Mod) (fun k => ?_) (Ev.bind c3 (Ev.congr (fun k => ?_) hr))⟩
    ·by_cases e : j = i
     ·subst e; rw [bl_at, ← c1, c]; exact Rp.pl_nil
     ·exact g2 j h1 (by omega)
    ·simp only [codewrightref40_Canon.l0]
     rw [if_pos (by omega), if_pos (by omega), rd2_nat, w1 (by omega)]
    ·rw [if_neg (by rw [c]; simp)]
   ·have := List.length_pos_iff.mpr c
    refine ⟨((i + 1 : Nat) : Int), ⟨i + 1, rfl, by omega, fun j h1 h2 => by omega, fun _ => by
     rw [Nat.add_sub_cancel, bl_at, ← c1]
     exact fun e => c ((cano_empty c0).1 e)⟩, fun r hr => Ev.step (f := fun k => (codewrightref05_Degree.f k P M Mod (p.getD i [])).bind fun t => if t ≥ 0 then codewrightref40_Canon.l0 k p ((i + 1 : Nat) : Int) ((i + 1 : Nat) : Int) P M Mod else codewrightref40_Canon.l0 k p (n : Int) ((i + 1 : Nat) : Int) P M Mod) (fun k => ?_) (Ev.bind c3 (Ev.congr (fun k => ?_) hr))⟩
    ·simp only [codewrightref40_Canon.l0]
     rw [if_pos (by omega), if_pos (by omega), rd2_nat, w1 (by omega)]
    ·rw [if_pos (by omega)]) p.length 0 ((0 : Nat) : Int) (by omega) ⟨0, rfl, by omega, fun j _ h2 => by omega, fun h0 => absurd rfl h0⟩
 obtain ⟨s, ⟨k1, k2, k3⟩, hs2⟩ := iterE (G := fun k s i => codewrightref40_Canon.l1 k p (n : Int) s i P M Mod) (n := n)
  (Inv := fun i s => s.length = n ∧ Rows K B s ∧ K.bl s = tr i (K.bl p)) (fun i s hi ⟨k1, k2, k3⟩ => by
   have hz : K.bl s i = 0 := by rw [k3]; exact if_neg (by omega)
   obtain ⟨r, c0, c1, c2, c3⟩ := rcanon_ev h (p.getD i []) (Nat.le_trans (len_at hl i) hB)
   refine ⟨s.set i r, ⟨by rw [List.length_set, k1], rows_set k2 i c1 (Nat.le_trans c3 (len_at hl i)), by rw [bl_set (by omega) (z := K.bl p i) (by rw [hz, za, c2]; rfl), k3, tr_succ]⟩, fun r' hr => Ev.step (f := fun k => (codewrightref05_Canon.f k P M Mod (p.getD i [])).bind fun t => if (i : Int) < (s.length : Int) then codewrightref40_Canon.l1 k p (n : Int) (s.set i t) ((i + 1 : Nat) : Int) P M Mod else none) (fun k => ?_) (Ev.bind c0 (Ev.congr (fun k => ?_) hr))⟩
   ·simp only [codewrightref40_Canon.l1]
    rw [if_pos (by omega), if_pos (by omega), if_pos (by omega), rd2_nat, w1 (by omega), Int.toNat_natCast]
   ·rw [if_pos (by omega)]) n 0 (List.replicate n []) (by omega) ⟨by simp, rows_rep _ _, by rw [bl_rep, tr_zero]⟩
 have hbd : Bd (K.bl p) n := fun j hj => by
  by_cases d : j < p.length
  ·exact g2 j hj d
  ·exact Rp.bd_bl p j (by omega)
 rw [tr_all hbd] at k3
 refine ⟨s, Ev.congr (fun k => ?_) (hs _ (Ev.step (fun k => ?_) (hs2 _ (Ev.step (f := fun _ => some s) (fun k => ?_) (Ev.now _))))), ⟨fun c hc => (k2 c hc).1, fun hne => ?_⟩, k2, k3, by omega⟩
 ·rfl
 ·simp only [codewrightref40_Canon.l0]
  rw [if_neg (by omega), if_pos (by omega), if_pos (by omega), Int.toNat_natCast]
  rfl
 ·simp only [codewrightref40_Canon.l1]
  rw [if_neg (by omega)]
 ·have := List.length_pos_iff.mpr hne
  intro e
  refine g3 (by omega) ?_
  rw [← k3, bl_at, ← k1, e]
  exact Rp.pl_nil
theorem at40_ev (p : List (List Int)) (i : Nat) : codewrightref40_At.f p (i : Int) = some (p.getD i []) := by
 unfold codewrightref40_At.f
 rw [if_neg (by omega)]
 by_cases c : i < p.length
 ·rw [if_neg (by omega), if_pos (by omega), if_pos (by omega), rd2_nat]
 ·rw [if_pos (by omega), getD_none (by omega)]
theorem radd40_ev (h : Pm P M Mod K) {B : Nat} (hB : B ≤ 1000000) (p q : List (List Int)) (hp : p.length ≤ 1000000) (hq : q.length ≤ 1000000) (hl : Len B p) (hl' : Len B q) : ∃ r, Ev (fun k => codewrightref40_Add.f k P M Mod p q) r ∧ K.BCano r ∧ Rows K B r ∧ K.bl r = K.bl p + K.bl q ∧ r.length ≤ max p.length q.length := by
 have hm : (mx (p.length : Int) (q.length : Int)) = ((max p.length q.length : Nat) : Int) := by unfold mx; split <;> omega
 obtain ⟨N, hN⟩ : ∃ N, N = max p.length q.length := ⟨_, rfl⟩
 obtain ⟨s, ⟨h1, h2, h3⟩, hs⟩ := iterE (G := fun k s i => codewrightref40_Add.l0 k p q s i P M Mod) (n := N)
  (Inv := fun i s => s.length = N ∧ Rows K B s ∧ K.bl s = tr i (K.bl p + K.bl q)) (fun i s hi ⟨h1, h2, h3⟩ => by
   have hz : K.bl s i = 0 := by rw [h3]; exact if_neg (by omega)
   have d1 := len_at hl i
   have d2 := len_at hl' i
   obtain ⟨r, c0, c1, c2, c3⟩ := radd5_ev h (p.getD i []) (q.getD i []) (by omega) (by omega)
   refine ⟨s.set i r, ⟨by rw [List.length_set, h1], rows_set h2 i c1 (by omega), by rw [bl_set (by omega) (z := (K.bl p + K.bl q) i) (by rw [hz, za, c2]; rfl), h3, tr_succ]⟩, fun r' hr => Ev.step (f := fun k => (codewrightref05_Add.f k P M Mod (p.getD i []) (q.getD i [])).bind fun t => codewrightref40_Add.l0 k p q (s.set i t) ((i + 1 : Nat) : Int) P M Mod) (fun k => ?_) (Ev.bind c0 hr)⟩
   simp only [codewrightref40_Add.l0, at40_ev, Option.bind_some]
   rw [if_pos (by omega), w1 (by omega), Int.toNat_natCast]
   simp only [if_pos (show (0 : Int) ≤ (i : Int) by omega)]) N 0 (List.replicate N []) (by omega) ⟨by simp, rows_rep _ _, by rw [bl_rep, tr_zero]⟩
 have hbd : Bd (K.bl p + K.bl q) N := ((Rp.bd_bl p).mono (by omega)).add ((Rp.bd_bl q).mono (by omega))
 rw [tr_all hbd] at h3
 obtain ⟨r, t0, t1, t2, t3, t4⟩ := rcanon40_ev h hB s (by omega) h2.len
 refine ⟨r, Ev.congr (fun k => ?_) (hs r (Ev.step (f := fun k => (codewrightref40_Canon.f k P M Mod s).bind fun t => some t) (fun k => ?_) (Ev.bind t0 (Ev.now _)))), t1, t2, t3.trans h3, by omega⟩
 ·simp only [codewrightref40_Add.f]
  rw [hm, if_pos (by omega), if_pos (by omega), Int.toNat_natCast, hN]
  rfl
 ·simp only [codewrightref40_Add.l0]
  rw [if_neg (by omega)]
theorem rmul40_ev (h : Pm P M Mod K) {B : Nat} (hB : B ≤ 10000) (p q : List (List Int)) (hp : p.length ≤ 100000) (hq : q.length ≤ 100000) (hl : Len B p) (hl' : Len B q) : ∃ r, Ev (fun k => codewrightref40_Mul.f k P M Mod p q) r ∧ K.BCano r ∧ Rows K (B + B) r ∧ K.bl r = K.bl p * K.bl q ∧ r.length ≤ p.length + q.length := by
 obtain ⟨s, ⟨h1, h2, h3⟩, hs⟩ := iterE (G := fun k s i => codewrightref40_Mul.l0 k p q s i P M Mod) (n := p.length)
  (Inv := fun i s => s.length = p.length + q.length ∧ Rows K (B + B) s ∧ K.bl s = tr i (K.bl p) * K.bl q) (fun i s hi ⟨h1, h2, h3⟩ => by
   obtain ⟨s2, ⟨g1, g2, g3⟩, hs2⟩ := iterE (G := fun k s j => codewrightref40_Mul.l1 k p q s (i : Int) j P M Mod) (n := q.length)
    (Inv := fun j s => s.length = p.length + q.length ∧ Rows K (B + B) s ∧ K.bl s = tr i (K.bl p) * K.bl q + mon i (K.bl p i) * tr j (K.bl q)) (fun j s hj ⟨h1, h2, h3⟩ => by
     have d1 := len_at hl i
     have d2 := len_at hl' j
     have d3 := (rows_at h2 (i + j)).2
     obtain ⟨t, m0, m1, m2, m3⟩ := rmul5_ev h (p.getD i []) (q.getD j []) (by omega) (by omega)
     obtain ⟨u, n0, n1, n2, n3⟩ := radd5_ev h (s.getD (i + j) []) t (by omega) (by omega)
     refine ⟨s.set (i + j) u, ⟨by rw [List.length_set, h1], rows_set h2 _ n1 (by omega), by rw [bl_set (by omega) (z := K.bl p i * K.bl q j) (by rw [n2, m2]; rfl), h3, tr_succ, md, mon_mon, aa]⟩, fun r hr => Ev.step (f := fun k => (codewrightref05_Mul.f k P M Mod (p.getD i []) (q.getD j [])).bind fun t => (codewrightref05_Add.f k P M Mod (s.getD (i + j) []) t).bind fun u => codewrightref40_Mul.l1 k p q (s.set (i + j) u) (i : Int) ((j + 1 : Nat) : Int) P M Mod) (fun k => ?_) (Ev.bind m0 (Ev.bind n0 hr))⟩
     simp only [codewrightref40_Mul.l1]
     rw [if_pos (by omega), wadd (by omega), if_pos (by omega), if_pos (by omega), if_pos (by omega), if_pos (by omega), if_pos (by omega), rd2_nat, rd2_nat, rd2_nat, Int.toNat_natCast, w1 (by omega)]) q.length 0 s (by omega) ⟨h1, h2, by rw [h3, tr_zero, mz, az]⟩
   rw [tr_all (Rp.bd_bl q), ← dm, ← tr_succ] at g3
   refine ⟨s2, ⟨g1, g2, g3⟩, fun r hr => Ev.step (f := fun k => codewrightref40_Mul.l1 k p q s (i : Int) ((0 : Nat) : Int) P M Mod) (fun k => ?_) (hs2 r (Ev.step (fun k => ?_) hr))⟩
   ·simp only [codewrightref40_Mul.l0]
    rw [if_pos (by omega)]
    rfl
   ·simp only [codewrightref40_Mul.l1]
    rw [if_neg (by omega), w1 (by omega)]) p.length 0 (List.replicate (p.length + q.length) []) (by omega) ⟨by simp, rows_rep _ _, by rw [bl_rep, tr_zero, zm]⟩
 rw [tr_all (Rp.bd_bl p)] at h3
 obtain ⟨r, t0, t1, t2, t3, t4⟩ := rcanon40_ev h (B := B + B) (by omega) s (by omega) h2.len
 refine ⟨r, Ev.congr (fun k => ?_) (hs r (Ev.step (f := fun k => (codewrightref40_Canon.f k P M Mod s).bind fun t => some t) (fun k => ?_) (Ev.bind t0 (Ev.now _)))), t1, t2, t3.trans h3, by omega⟩
 ·simp only [codewrightref40_Mul.f]
  rw [wadd (by omega), if_pos (by omega), if_pos (by omega), Int.toNat_natCast]
  rfl
 ·simp only [codewrightref40_Mul.l0]
  rw [if_neg (by omega)]
theorem same40_ev (p : List (List Int)) {B : Nat} (hB : B ≤ 1000000) (hp : p.length ≤ 1000000) (hl : Len B p) : Ev (fun k => codewrightref40_Same.f k p p) true := by
 obtain ⟨s, _, hs⟩ := iterE (G := fun k (_ : Unit) i => codewrightref40_Same.l0 k p p i) (n := p.length) (Inv := fun _ _ => True) (fun i s hi _ => by
  obtain ⟨s2, _, hs2⟩ := iterE (G := fun k (_ : Unit) j => codewrightref40_Same.l1 k p p (i : Int) j) (n := (p.getD i []).length) (Inv := fun _ _ => True) (fun j s hj _ => by
   have d1 := len_at hl i
   refine ⟨(), trivial, fun r hr => Ev.step (fun k => ?_) hr⟩
   simp only [codewrightref40_Same.l1]
   rw [if_pos (by omega), if_pos (by omega), rd2_nat, if_pos (by omega), if_pos (by omega), if_pos (by omega), if_pos (by omega), if_pos trivial, w1 (by omega)]) (p.getD i []).length 0 () (by omega) trivial
  have d1 := len_at hl i
  refine ⟨(), trivial, fun r hr => Ev.step (f := fun k => codewrightref40_Same.l1 k p p (i : Int) ((0 : Nat) : Int)) (fun k => ?_) (hs2 r (Ev.step (fun k => ?_) hr))⟩
  ·simp only [codewrightref40_Same.l0]
   rw [if_pos (by omega), if_pos (by omega), if_pos (by omega), if_pos trivial]
   rfl
  ·simp only [codewrightref40_Same.l1]
   rw [if_pos (by omega), if_pos (by omega), rd2_nat, if_neg (by omega), w1 (by omega)]) p.length 0 () (by omega) trivial
 refine Ev.congr (fun k => ?_) (hs true (Ev.step (f := fun _ => some true) (fun k => ?_) (Ev.now _)))
 ·simp only [codewrightref40_Same.f]
  rw [if_pos trivial]
  rfl
 ·simp only [codewrightref40_Same.l0]
  rw [if_neg (by omega)]
end Go.Proofs.Ytgjphmcofmkmfaa.G
namespace Go.Proofs.Ytgjphmcofmkmfaa.G
open Go.RowKit Go.Proofs.YtgjphmcofmkmfaaW.PrintWords Go.Proofs.YtgjphmcofmkmfaaW.PrintLast Go.Proofs.YtgjphmcofmkmfaaW.PrintMore
open Go.Proofs.Ytgjphmcofmkmfaa.Al
variable {P M : Int} {Mod : List Int} {K : Rp}
theorem fdigits_ev (h : Pm P M Mod K) (x : Int) (h0 : 0 ≤ x) (h1 : x < K.q) : ∃ r, Ev (fun k => field_digitsOf.f k x P M) r ∧ r.length = K.m ∧ ci r = K.dig x := by
 have hp := K.p2
 have hp' := h.p256
 have hm := h.m
 have hm8 := h.m8
 have hP := h.p
 have hq := h.q256
 obtain ⟨s, ⟨g1, g2, g3⟩, hs⟩ := iterE (G := fun k (s : Int × List Int) i => field_digitsOf.l0 k s.1 P s.2 (K.m : Int) i) (n := K.m)
  (Inv := fun i s => s.1 = x / K.p ^ i ∧ s.2.length = K.m ∧ ∀ j, s.2.getD j 0 = if j < i then K.dig x j else 0) (fun i s hi ⟨g1, g2, g3⟩ => by
   have b0 : 0 ≤ x / K.p ^ i := Int.ediv_nonneg h0 (Int.le_of_lt (K.pp i))
   have b1 : x / K.p ^ i ≤ x := Int.ediv_le_self _ h0
   refine ⟨(s.1 / K.p, s.2.set i (s.1 % K.p)), ⟨by show s.1 / K.p = _; rw [g1, Int.ediv_ediv_of_nonneg (Int.le_of_lt (K.pp i)), ← Int.pow_succ], by rw [List.length_set, g2], fun j => ?_⟩, fun r hr => Ev.step (fun k => ?_) hr⟩
   ·rw [getD_set _ _ _ _ _ (by omega)]
    by_cases cj : j = i
    ·subst cj
     rw [if_pos rfl, if_pos (by omega), g1]
     unfold Rp.dig
     rw [if_pos hi]
    ·rw [if_neg cj, g3 j]
     by_cases cl : j < i
     ·rw [if_pos cl, if_pos (by omega)]
     ·rw [if_neg cl, if_neg (by omega)]
   ·have c1 : Int.tdiv s.1 P = s.1 / K.p := by rw [hP]; exact Int.tdiv_eq_ediv_of_nonneg (by omega)
    have c3 : s.1 / K.p ≤ s.1 := Int.ediv_le_self _ (by omega)
    have c4 : 0 ≤ s.1 / K.p := Int.ediv_nonneg (by omega) (by omega)
    simp only [field_digitsOf.l0]
    rw [if_pos (by omega), if_neg (by omega), if_pos (by omega), if_pos (by omega), c1, tmod_p hP (by omega), w64 (by omega) (by omega), w1 (by omega), Int.toNat_natCast]) K.m 0 (x, List.replicate K.m 0) (by omega) ⟨by simp, by simp, fun j => by rw [getD_rep]; simp⟩
 refine ⟨s.2, Ev.congr (fun k => ?_) (hs _ (Ev.step (f := fun _ => some s.2) (fun k => ?_) (Ev.now _))), g2, funext fun j => ?_⟩
 ·simp only [field_digitsOf.f]
  rw [if_pos (by omega), if_pos (by omega), ← hm, Int.toNat_natCast, Option.bind_some, List.length_replicate]
  rfl
 ·simp only [field_digitsOf.l0]
  rw [if_neg (by omega)]
 ·show s.2.getD j 0 = _
  rw [g3 j]
  by_cases c : j < K.m
  ·rw [if_pos c]
  ·rw [if_neg c]; unfold Rp.dig; rw [if_neg c]
theorem fvalue_ev (h : Pm P M Mod K) (l : List Int) (hl : l.length = K.m) (hr : ∀ i, 0 ≤ l.getD i 0 ∧ l.getD i 0 < K.p) : Ev (fun k => field_valueOf.f k l P) (K.vl K.m (ci l)) := by
 have hp := K.p2
 have hp' := h.p256
 have hm8 := h.m8
 have hP := h.p
 have hq := h.q256
 have key : ∀ i n, i + n = K.m → Ev (fun k => field_valueOf.l0 k l P (hv K.p (ci l) i n) ((i : Int) - 1)) (hv K.p (ci l) 0 K.m) := by
  intro i
  induction i with
  | zero =>
   intro n hn
   have : n = K.m := by omega
   subst this
   refine Ev.step (f := fun _ => some _) (fun k => ?_) (Ev.now _)
   simp only [field_valueOf.l0]
   rw [if_neg (by omega)]
  | succ i ih =>
   intro n hn
   obtain ⟨a, b⟩ := hv_bd hp (fun i => (hr i).1) (fun i => (hr i).2) n (i + 1)
   obtain ⟨a', b'⟩ := hv_bd hp (fun i => (hr i).1) (fun i => (hr i).2) (n + 1) i
   have c := pow_le (p := K.p) (by omega) (show n + 1 ≤ K.m by omega)
   have d := (hr i).1
   have d' := (hr i).2
   have e : hv K.p (ci l) i (n + 1) = hv K.p (ci l) (i + 1) n * K.p + l.getD i 0 := rfl
   have f := Int.mul_nonneg a (show 0 ≤ K.p by omega)
   have hqq : K.p ^ K.m ≤ 256 := hq
   change 0 ≤ hv K.p (ci l) (i + 1) n at a
   change 0 ≤ hv K.p (ci l) i (n + 1) at a'
   change hv K.p (ci l) i (n + 1) < K.p ^ (n + 1) at b'
   refine Ev.step (fun k => ?_) (ih (n + 1) (by omega))
   simp only [field_valueOf.l0]
   rw [if_pos (by omega), if_pos (by omega), if_pos (by omega), show ((i + 1 : Nat) : Int) - 1 = (i : Int) by omega, rd_nat, ← hP, w64 (x := hv K.p (ci l) (i + 1) n * K.p) (by omega) (by omega), ← e, w64 (x := hv K.p (ci l) i (n + 1)) (by omega) (by omega), w64 (x := (i : Int) - 1) (by omega) (by omega)]
 have e2 : K.vl K.m (ci l) = hv K.p (ci l) 0 K.m := by
  rw [hv_sm]; unfold Rp.vl
  exact sm_congr fun j _ => by rw [Nat.zero_add]
 rw [e2]
 refine Ev.congr (fun k => ?_) (key K.m 0 (by omega))
 simp only [field_valueOf.f]
 rw [hl, w64 (by omega) (by omega)]
 rfl
theorem cpy_len (x : List Int) (m : Nat) (hx : x.length = m) (hm : 1 ≤ m) : (cpy x ((m : Int) - 1)).length = m := by
 have e : Nat.min ((m : Int) - 1).toNat (x.length - 1) = m - 1 := by
  rw [show ((m : Int) - 1).toNat = m - 1 by omega, hx]; exact Nat.min_self _
 unfold cpy splice
 rw [e]
 simp only [List.length_append, List.length_take, List.length_drop]
 omega
theorem cpy_at (x : List Int) (m : Nat) (hx : x.length = m) (hm : 1 ≤ m) (j : Nat) (hj : j + 1 < m) : (cpy x ((m : Int) - 1)).getD (j + 1) 0 = x.getD j 0 := by
 have e : Nat.min ((m : Int) - 1).toNat (x.length - 1) = m - 1 := by
  rw [show ((m : Int) - 1).toNat = m - 1 by omega, hx]; exact Nat.min_self _
 unfold cpy splice
 have e2 : (x.take 1).length = 1 := by rw [List.length_take]; omega
 rw [e, List.getD_eq_getElem?_getD, List.getElem?_append_right (by omega), e2, Nat.add_sub_cancel, List.getElem?_append_left (by rw [List.length_take]; omega), List.getElem?_take_of_lt (by omega), List.getD_eq_getElem?_getD]
def dr (i : Nat) (f : PS Int) : PS Int := fun t => f (i + t)
theorem dr_zero (f : PS Int) : dr 0 f = f := funext fun t => by unfold dr; rw [Nat.zero_add]
theorem dr_step (i : Nat) (f : PS Int) : dr i f = mon 1 1 * dr (i + 1) f + mon 0 (f i) := funext fun t => by
 rw [ps_add, mon_mul, mon_at]
 unfold dr
 cases t with
 | zero => rw [if_neg (by omega), if_pos rfl, za, Nat.add_zero]
 | succ t => rw [if_pos (by omega), if_neg (by omega), az, om]; congr 1; omega
theorem dr_top {f : PS Int} {n : Nat} (h : Bd f n) : dr n f = 0 := funext fun t => h (n + t) (by omega)
theorem fmul_ev (h : Pm P M Mod K) (x y : K.E) : Ev (fun k => field_multiply.f k P M Mod x.1 y.1) (x * y).1 := by
 have hp := K.p2
 have hp' := h.p256
 have hm := h.m
 have hm1 := K.m1
 have hm8 := h.m8
 have hP := h.p
 obtain ⟨d, d0, d1, d2⟩ := fdigits_ev h x.1 x.2.1 x.2.2
 obtain ⟨e, e0, e1, e2⟩ := fdigits_ev h y.1 y.2.1 y.2.2
 have hd : ∀ j, d.getD j 0 = K.dig x.1 j := fun j => congrFun d2 j
 have he : ∀ j, e.getD j 0 = K.dig y.1 j := fun j => congrFun e2 j
 have key : ∀ i (s : List Int), i ≤ K.m → s.length = K.m → (∀ t, 0 ≤ s.getD t 0 ∧ s.getD t 0 < K.p) → K.Cg (ci s) (dr i (K.dig y.1) * K.dig x.1) → Ev (fun k => field_multiply.l0 k d e s ((i : Int) - 1) P M Mod) (x * y).1 := by
  intro i
  induction i with
  | zero =>
   intro s _ hl hr hc
   rw [dr_zero] at hc
   have ev : (x * y).1 = K.vl K.m (ci s) := by
    rw [Rp.mul_el (v := ci s) (hl ▸ ci_bd s) (by rw [mc (K.dig x.1)]; exact hc)]
    unfold Rp.el Rp.vl
    exact sm_congr fun j _ => by
     show s.getD j 0 % K.p * _ = s.getD j 0 * _
     rw [Int.emod_eq_of_lt (hr j).1 (hr j).2]
   rw [ev]
   refine Ev.step (f := fun k => (field_valueOf.f k s P).bind fun t => some t) (fun k => ?_) (Ev.bind (fvalue_ev h s hl hr) (Ev.now _))
   simp only [field_multiply.l0]
   rw [if_neg (by omega)]
  | succ i ih =>
   intro s hi hl hr hc
   obtain ⟨top, htop⟩ : ∃ t, t = s.getD (K.m - 1) 0 := ⟨_, rfl⟩
   have ht0 := hr (K.m - 1)
   rw [← htop] at ht0
   obtain ⟨s1, hs1⟩ : ∃ s1, s1 = (cpy s ((K.m : Int) - 1)).set 0 0 := ⟨_, rfl⟩
   have l1 : s1.length = K.m := by rw [hs1, List.length_set, cpy_len s K.m hl hm1]
   have a1 : ∀ t, s1.getD t 0 = if t = 0 then 0 else if t < K.m then s.getD (t - 1) 0 else 0 := fun t => by
    rw [hs1, getD_set _ _ _ _ _ (by rw [cpy_len s K.m hl hm1]; omega)]
    by_cases c : t = 0
    ·rw [if_pos c, if_pos c]
    ·rw [if_neg c, if_neg c]
     by_cases c2 : t < K.m
     ·rw [if_pos c2]
      obtain ⟨u, rfl⟩ : ∃ u, t = u + 1 := ⟨t - 1, by omega⟩
      rw [cpy_at s K.m hl hm1 u c2]; rfl
     ·rw [if_neg c2, getD_none (by rw [cpy_len s K.m hl hm1]; omega)]
   have r1 : ∀ t, 0 ≤ s1.getD t 0 ∧ s1.getD t 0 < K.p := fun t => by
    rw [a1 t]
    split
    ·omega
    ·split
     ·exact hr _
     ·omega
   have sh : mon 1 1 * ci s = ci s1 + mon K.m top := funext fun t => by
    rw [mon_mul, ps_add, mon_at, show ci s1 t = s1.getD t 0 from rfl, a1 t]
    by_cases c : t = 0
    ·subst c; rw [if_neg (by omega), if_pos rfl, if_neg (by omega), az]
    ·rw [if_pos (by omega), if_neg c, om]
     by_cases c2 : t < K.m
     ·rw [if_pos c2, if_neg (by omega), az]; rfl
     ·rw [if_neg c2, za]
      by_cases c3 : t = K.m
      ·rw [if_pos c3, c3, htop]; rfl
      ·rw [if_neg c3, ci_at, getD_none (by omega)]
   obtain ⟨s2, ⟨g1, g2, g3⟩, hs2⟩ := iterE (G := fun k s j => field_multiply.l1 k d e s (i : Int) top (K.m : Int) j P M Mod) (n := K.m)
    (Inv := fun j s2 => s2.length = K.m ∧ (∀ t, 0 ≤ s2.getD t 0 ∧ s2.getD t 0 < K.p) ∧ ∀ t, s2.getD t 0 = if t < j then (s1.getD t 0 + (K.p + -top) * Mod.getD t 0 + K.dig y.1 i * K.dig x.1 t) % K.p else s1.getD t 0) (fun j s2 hj ⟨g1, g2, g3⟩ => by
     have gj : s2.getD j 0 = s1.getD j 0 := by rw [g3 j, if_neg (by omega)]
     have rj := r1 j
     have bm := h.modb j
     have b1 := K.dig_nonneg y.1 i
     have b2 := K.dig_lt y.1 i
     have b3 := K.dig_nonneg x.1 j
     have b4 := K.dig_lt x.1 j
     have m1 : 0 ≤ K.dig y.1 i * K.dig x.1 j := Int.mul_nonneg b1 b3
     have m2 : K.dig y.1 i * K.dig x.1 j ≤ 256 * 256 := Int.mul_le_mul (by omega) (by omega) b3 (by omega)
     have m3 : 0 ≤ (K.p + -top) * Mod.getD j 0 := Int.mul_nonneg (by omega) bm.1
     have m4 : (K.p + -top) * Mod.getD j 0 ≤ 256 * 256 := Int.mul_le_mul (by omega) (by omega) bm.1 (by omega)
     refine ⟨s2.set j ((s1.getD j 0 + (K.p + -top) * Mod.getD j 0 + K.dig y.1 i * K.dig x.1 j) % K.p), ⟨by rw [List.length_set, g1], fun t => ?_, fun t => ?_⟩, fun r hr' => Ev.step (fun k => ?_) hr'⟩
     ·rw [getD_set _ _ _ _ _ (by omega)]
      split
      ·exact int_emod_bd (by omega) _
      ·exact g2 t
     ·rw [getD_set _ _ _ _ _ (by omega)]
      by_cases c : t = j
      ·subst c; rw [if_pos rfl, if_pos (by omega)]
      ·rw [if_neg c, g3 t]
       by_cases c2 : t < j
       ·rw [if_pos c2, if_pos (by omega)]
       ·rw [if_neg c2, if_neg (by omega)]
     ·simp only [field_multiply.l1]
      rw [if_pos (by omega)]
      by_cases cM : M > 1
      ·have hML : Mod.length = K.m := h.modl (by omega)
       rw [if_pos cM, if_pos (by omega), if_pos (by omega), if_pos (by omega), if_pos (by omega), if_pos (by omega), if_pos (by omega), if_neg (by omega), rd_nat, rd_nat, rd_nat, rd_nat, hd, he, gj, weq (x := P - top) (y := K.p + -top) (by omega) (by omega) (by omega), w64 (x := (K.p + -top) * Mod.getD j 0) (by omega) (by omega), w64 (x := s1.getD j 0 + (K.p + -top) * Mod.getD j 0) (by omega) (by omega), w64 (x := K.dig y.1 i * K.dig x.1 j) (by omega) (by omega), w64 (x := s1.getD j 0 + (K.p + -top) * Mod.getD j 0 + K.dig y.1 i * K.dig x.1 j) (by omega) (by omega), tmod_p hP (by omega), w1 (by omega), Int.toNat_natCast]
      ·have hz : Mod.getD j 0 = 0 := h.mod1 (by omega) j
       rw [if_neg cM, if_pos (by omega), if_pos (by omega), if_pos (by omega), if_pos (by omega), if_pos (by omega), if_neg (by omega), rd_nat, rd_nat, rd_nat, hd, he, gj, w64 (x := 0) (by omega) (by omega), Int.add_zero, w64 (x := s1.getD j 0) (by omega) (by omega), w64 (x := K.dig y.1 i * K.dig x.1 j) (by omega) (by omega), w64 (x := s1.getD j 0 + K.dig y.1 i * K.dig x.1 j) (by omega) (by omega), tmod_p hP (by omega), w1 (by omega), Int.toNat_natCast, hz, Int.mul_zero, Int.add_zero]) K.m 0 s1 (by omega) ⟨l1, r1, fun t => by rw [if_neg (by omega)]⟩
   have g4 : K.Cg (ci s2) (ci s1 + mon 0 (K.p + -top) * K.lw + mon 0 (K.dig y.1 i) * K.dig x.1) := K.cg_mod fun t => by
    rw [ps_add, ps_add, mon_mul, mon_mul, if_pos (Nat.zero_le _), if_pos (Nat.zero_le _), Nat.sub_zero, ci_at, ci_at, g3 t]
    by_cases c : t < K.m
    ·rw [if_pos c]
     have : K.lw t = Mod.getD t 0 := by unfold Rp.lw; rw [if_pos c, h.low]
     rw [this]
     exact mod_dvd _ _
    ·rw [if_neg c, K.bd_lw t (by omega), K.bd_dig x.1 t (by omega), mz, mz, az, az, an]
     exact Int.dvd_zero _
   have g5 : K.Cg (ci s2) (dr i (K.dig y.1) * K.dig x.1) := by
    rw [dr_step, dm, ma]
    refine K.cg_trans g4 (K.cg_add ?_ (K.cg_refl _))
    have r0 := cg_reduce (K := K) 0 (ci s1) top
    rw [Nat.add_zero, ← sh] at r0
    exact K.cg_trans r0 (K.cg_mull hc (Bd.mon 1 1))
   have last := ih s2 (by omega) g1 g2 g5
   refine Ev.step (f := fun k => field_multiply.l1 k d e s1 (i : Int) top (K.m : Int) ((0 : Nat) : Int) P M Mod) (fun k => ?_) (hs2 _ (Ev.step (fun k => ?_) last))
   ·simp only [field_multiply.l0]
    rw [if_pos (by omega), weq (x := M - 1) (y := ((K.m - 1 : Nat) : Int)) (by omega) (by omega) (by omega), if_pos (by omega), if_pos (by omega), if_pos (by omega), rd_nat, ← htop, show ((i + 1 : Nat) : Int) - 1 = (i : Int) by omega, hl, show ((K.m - 1 : Nat) : Int) = (K.m : Int) - 1 by omega, hs1]
    rfl
   ·simp only [field_multiply.l1]
    rw [if_neg (by omega), w64 (x := (i : Int) - 1) (by omega) (by omega)]
 refine Ev.bind d0 (Ev.bind e0 (Ev.congr (fun k => ?_) (key K.m (List.replicate K.m 0) (Nat.le_refl _) (by simp) (fun t => by rw [getD_rep]; omega) ?_)))
 ·rw [if_pos (by omega), if_pos (by omega), weq (x := M - 1) (y := (K.m : Int) - 1) (by omega) (by omega) (by omega), ← hm, Int.toNat_natCast]
 ·rw [dr_top (K.bd_dig _), zm]
  have : ci (List.replicate K.m 0) = 0 := funext fun i => getD_rep _ _ _
  rw [this]; exact K.cg_refl _
end Go.Proofs.Ytgjphmcofmkmfaa.G
namespace Go.Proofs.Ytgjphmcofmkmfaa.G
open Go.RowKit Go.Proofs.YtgjphmcofmkmfaaW.PrintWords Go.Proofs.YtgjphmcofmkmfaaW.PrintLast Go.Proofs.YtgjphmcofmkmfaaW.PrintMore
open Go.Proofs.Ytgjphmcofmkmfaa.Al
variable {P M : Int} {Mod : List Int} {K : Rp}
def rpOf (P : Int) (m : Nat) (Mod : List Int) (hp : 2 ≤ P) (hm : 1 ≤ m) : Rp := ⟨P, m, fun i => Mod.getD i 0, hp, hm⟩
theorem order_tot (P M : Int) (Mod : List Int) : ∃ r, Ev (fun k => codewrightref04_Order.f k P M Mod) r ∧ (r = 0 ∨ (2 ≤ P ∧ P ≤ 256 ∧ ∃ m : Nat, M = (m : Int) ∧ 1 ≤ m ∧ m ≤ 8 ∧ r = P ^ m ∧ r ≤ 256)) := by
 have bad : Ev (fun k => codewrightref04_Order.j0 k true P M Mod) 0 := Ev.step (f := fun _ => some 0) (fun k => by simp only [codewrightref04_Order.j0]; rw [if_pos trivial]) (Ev.now _)
 by_cases c1 : P < 2
 ·exact ⟨0, Ev.congr (fun k => by simp only [codewrightref04_Order.f]; rw [if_pos c1]) bad, .inl rfl⟩
 by_cases c2 : M < 1
 ·exact ⟨0, Ev.congr (fun k => by simp only [codewrightref04_Order.f]; rw [if_neg c1, if_pos c2]) bad, .inl rfl⟩
 by_cases c3 : M > 8
 ·exact ⟨0, Ev.congr (fun k => by simp only [codewrightref04_Order.f]; rw [if_neg c1, if_neg c2, decide_eq_true c3]) bad, .inl rfl⟩
 obtain ⟨m, rfl⟩ : ∃ m : Nat, M = (m : Int) := ⟨M.toNat, by omega⟩
 have key : ∀ n i, i + n = m → 1 ≤ P ^ i → P ^ i ≤ 256 → ∃ r, Ev (fun k => codewrightref04_Order.l0 k (P ^ i) (i : Int) P (m : Int) Mod) r ∧ (r = 0 ∨ (r = P ^ m ∧ r ≤ 256)) := by
  intro n
  induction n with
  | zero =>
   intro i hi _ h2
   have : i = m := by omega
   subst this
   exact ⟨P ^ i, Ev.step (f := fun _ => some _) (fun k => by simp only [codewrightref04_Order.l0]; rw [if_neg (by omega)]) (Ev.now _), .inr ⟨rfl, h2⟩⟩
  | succ n ih =>
   intro i hi h1 h2
   have b1 : Int.tdiv (256 : Int) P = 256 / P := Int.tdiv_eq_ediv_of_nonneg (by omega)
   have b3 : 256 / P ≤ 256 := Int.ediv_le_self _ (by omega)
   have b4 : 0 ≤ 256 / P := Int.ediv_nonneg (by omega) (by omega)
   by_cases c : P ^ i > 256 / P
   ·exact ⟨0, Ev.step (f := fun _ => some 0) (fun k => by
     simp only [codewrightref04_Order.l0]
     rw [if_pos (by omega), if_neg (by omega), b1, w64 (by omega) (by omega), if_pos c]) (Ev.now _), .inl rfl⟩
   ·have d : P ^ i * P ≤ 256 := (Int.le_ediv_iff_mul_le (by omega)).1 (by omega)
    have d0 : 1 * P ≤ P ^ i * P := Int.mul_le_mul_of_nonneg_right h1 (by omega)
    have e : P ^ (i + 1) = P ^ i * P := Int.pow_succ _ _
    obtain ⟨r, hr, h3⟩ := ih (i + 1) (by omega) (by omega) (by omega)
    refine ⟨r, Ev.step (fun k => ?_) hr, h3⟩
    simp only [codewrightref04_Order.l0]
    rw [if_pos (by omega), if_neg (by omega), b1, w64 (by omega) (by omega), if_neg c, w64 (x := P ^ i * P) (by omega) (by omega), ← e, w1 (by omega)]
 obtain ⟨r, hr, h3⟩ := key m 0 (by omega) (by rw [Int.pow_zero]; omega) (by rw [Int.pow_zero]; omega)
 rw [Int.pow_zero] at hr
 refine ⟨r, Ev.congr (f := fun k => codewrightref04_Order.j0 k false P (m : Int) Mod) (fun k => ?_) (Ev.step (fun k => ?_) hr), ?_⟩
 ·simp only [codewrightref04_Order.f]
  rw [if_neg c1, if_neg c2, decide_eq_false c3]
 ·simp only [codewrightref04_Order.j0]
  rw [if_neg (by simp)]
  rfl
 ·rcases h3 with h3 | ⟨h3, h4⟩
  ·exact .inl h3
  ·by_cases r0 : r = 0
   ·exact .inl r0
   ·refine .inr ⟨by omega, ?_, m, rfl, by omega, by omega, h3, h4⟩
    have := pow_le (p := P) (by omega) (show 1 ≤ m by omega)
    rw [Int.pow_succ, Int.pow_zero, Int.one_mul] at this
    omega
theorem prime_tot (n : Nat) (hn : n ≤ 256) : ∃ b, Ev (fun k => codewrightref04_prime.f k (n : Int)) b := by
 have key : ∀ m d, 2 ≤ d → d + m = n + 2 → ∃ b, Ev (fun k => codewrightref04_prime.l0 k (n : Int) (d : Int)) b := by
  intro m
  induction m with
  | zero =>
   intro d _ h
   exact ⟨true, Ev.step (f := fun _ => some true) (fun k => by simp only [codewrightref04_prime.l0]; rw [if_neg (by omega)]) (Ev.now _)⟩
  | succ m ih =>
   intro d h2 h
   by_cases c : d < n
   ·by_cases e : Int.tmod (n : Int) (d : Int) = 0
    ·exact ⟨false, Ev.step (f := fun _ => some false) (fun k => by simp only [codewrightref04_prime.l0]; rw [if_pos (by omega), if_neg (by omega), if_pos e]) (Ev.now _)⟩
    ·obtain ⟨b, hb⟩ := ih (d + 1) (by omega) (by omega)
     exact ⟨b, Ev.step (fun k => by simp only [codewrightref04_prime.l0]; rw [if_pos (by omega), if_neg (by omega), if_neg e, w1 (by omega)]) hb⟩
   ·exact ⟨true, Ev.step (f := fun _ => some true) (fun k => by simp only [codewrightref04_prime.l0]; rw [if_neg (by omega)]) (Ev.now _)⟩
 exact key n 2 (by omega) (by omega)
theorem divides_tot (low mod : List Int) (hp : 2 ≤ P) (hp' : P ≤ 256) (hl : low.length ≤ 8) (hl1 : 1 ≤ low.length) (hm : mod.length ≤ 8) (hlr : ∀ i, 0 ≤ low.getD i 0 ∧ low.getD i 0 < P) (hmr : ∀ i, 0 ≤ mod.getD i 0 ∧ mod.getD i 0 < P) : ∃ b, Ev (fun k => codewrightref04_divides.f k low mod P) b := by
 have last : ∀ (r : List Int), r.length ≤ 9 → ∀ n i, i + n = r.length → ∃ b, Ev (fun k => codewrightref04_divides.l2 k r (i : Int)) b := by
  intro r hr n
  induction n with
  | zero =>
   intro i h
   exact ⟨true, Ev.step (f := fun _ => some true) (fun k => by simp only [codewrightref04_divides.l2]; rw [if_neg (by omega)]) (Ev.now _)⟩
  | succ n ih =>
   intro i h
   by_cases e : r.getD i 0 = 0
   ·obtain ⟨b, hb⟩ := ih (i + 1) (by omega)
    exact ⟨b, Ev.step (fun k => by simp only [codewrightref04_divides.l2]; rw [if_pos (by omega), if_pos (by omega), rd_nat, if_pos e, w1 (by omega)]) hb⟩
   ·exact ⟨false, Ev.step (f := fun _ => some false) (fun k => by simp only [codewrightref04_divides.l2]; rw [if_pos (by omega), if_pos (by omega), rd_nat, if_neg e]) (Ev.now _)⟩
 have key : ∀ i (r : List Int), r.length = mod.length + 1 → (∀ t, 0 ≤ r.getD t 0 ∧ r.getD t 0 < P) → i < r.length → ∃ b, Ev (fun k => codewrightref04_divides.l0 k low P (low.length : Int) r (i : Int)) b := by
  intro i
  induction i with
  | zero =>
   intro r hr hrr hi
   obtain ⟨b, hb⟩ := last r (by omega) r.length 0 (by omega)
   exact ⟨b, Ev.step (fun k => by simp only [codewrightref04_divides.l0]; rw [if_neg (by omega)]; rfl) hb⟩
  | succ i ih =>
   intro r hr hrr hi
   by_cases c : low.length ≤ i + 1
   ·obtain ⟨v, hv⟩ : ∃ v, v = r.getD (i + 1) 0 := ⟨_, rfl⟩
    have hv0 := hrr (i + 1)
    rw [← hv] at hv0
    obtain ⟨u, hu⟩ : ∃ u, i + 1 = low.length + u := ⟨i + 1 - low.length, by omega⟩
    obtain ⟨s, ⟨g1, g2⟩, hs⟩ := iterE (G := fun k s j => codewrightref04_divides.l1 k low P (low.length : Int) s ((i + 1 : Nat) : Int) v j) (n := low.length)
     (Inv := fun j s => s.length = mod.length + 1 ∧ ∀ t, 0 ≤ s.getD t 0 ∧ s.getD t 0 < P) (fun j s hj ⟨g1, g2⟩ => by
      have b0 := g2 (u + j)
      have bl := hlr j
      have m1 : 0 ≤ (P - v) * low.getD j 0 := Int.mul_nonneg (by omega) bl.1
      have m2 : (P - v) * low.getD j 0 ≤ 256 * 256 := Int.mul_le_mul (by omega) (by omega) bl.1 (by omega)
      refine ⟨s.set (u + j) ((s.getD (u + j) 0 + (P - v) * low.getD j 0) % P), ⟨by rw [List.length_set, g1], fun t => ?_⟩, fun r' hr' => Ev.step (fun k => ?_) hr'⟩
      ·rw [getD_set _ _ _ _ _ (by omega)]
       split
       ·exact int_emod_bd (by omega) _
       ·exact g2 t
      ·simp only [codewrightref04_divides.l1]
       rw [if_pos (by omega), weq (x := ((i + 1 : Nat) : Int) - (low.length : Int)) (y := (u : Int)) (by omega) (by omega) (by omega), wadd (by omega), if_pos (by omega), if_pos (by omega), if_pos (by omega), if_pos (by omega), if_neg (by omega), rd_nat, rd_nat, w64 (x := P - v) (by omega) (by omega), w64 (x := (P - v) * low.getD j 0) (by omega) (by omega), w64 (x := s.getD (u + j) 0 + (P - v) * low.getD j 0) (by omega) (by omega), tmod_p rfl (by omega), w1 (by omega), Int.toNat_natCast]) low.length 0 r (by omega) ⟨hr, hrr⟩
    obtain ⟨b, hb⟩ := ih (s.set (i + 1) 0) (by rw [List.length_set, g1]) (fun t => by
     rw [getD_set _ _ _ _ _ (by omega)]
     split
     ·omega
     ·exact g2 t) (by rw [List.length_set]; omega)
    refine ⟨b, Ev.step (f := fun k => codewrightref04_divides.l1 k low P (low.length : Int) r ((i + 1 : Nat) : Int) v ((0 : Nat) : Int)) (fun k => ?_) (hs _ (Ev.step (fun k => ?_) hb))⟩
    ·simp only [codewrightref04_divides.l0]
     rw [if_pos (by omega), if_pos (by omega), if_pos (by omega), rd_nat, ← hv]
     rfl
    ·simp only [codewrightref04_divides.l1]
     rw [if_neg (by omega), if_pos (by omega), if_pos (by omega), weq (x := ((i + 1 : Nat) : Int) - 1) (y := (i : Int)) (by omega) (by omega) (by omega), Int.toNat_natCast]
   ·obtain ⟨b, hb⟩ := last r (by omega) r.length 0 (by omega)
    exact ⟨b, Ev.step (fun k => by simp only [codewrightref04_divides.l0]; rw [if_neg (by omega)]; rfl) hb⟩
 have l1 : (mod ++ [1]).length = mod.length + 1 := by simp
 obtain ⟨b, hb⟩ := key mod.length (mod ++ [1]) l1 (fun t => by
  rw [List.getD_eq_getElem?_getD, List.getElem?_append]
  by_cases c : t < mod.length
  ·rw [if_pos c, ← List.getD_eq_getElem?_getD]; exact hmr t
  ·rw [if_neg c]
   cases e : t - mod.length with
   | zero => exact ⟨by show (0 : Int) ≤ 1; omega, by show (1 : Int) < P; omega⟩
   | succ n => exact ⟨Int.le_refl _, by show (0 : Int) < P; omega⟩) (by omega)
 refine ⟨b, Ev.congr (fun k => ?_) hb⟩
 simp only [codewrightref04_divides.f, Option.bind_some, List.nil_append]
 rw [if_pos (by simp; omega), if_pos (by omega), l1, weq (x := ((mod.length + 1 : Nat) : Int) - 1) (y := (mod.length : Int)) (by omega) (by omega) (by omega)]
theorem irreducible_tot (mod : List Int) (hp : 2 ≤ P) (hm : mod.length ≤ 8) (hq : P ^ mod.length ≤ 256) (hm1 : 1 ≤ mod.length) (hmr : ∀ i, 0 ≤ mod.getD i 0 ∧ mod.getD i 0 < P) : ∃ b, Ev (fun k => codewrightref04_irreducible.f k mod P) b := by
 have hp' : P ≤ 256 := by
  have := pow_le (p := P) (by omega) hm1
  rw [Int.pow_succ, Int.pow_zero, Int.one_mul] at this
  omega
 have key : ∀ n d, d + n = mod.length + 1 → ∃ b, Ev (fun k => codewrightref04_irreducible.l0 k mod P (P ^ d) ((d + 1 : Nat) : Int)) b := by
  intro n
  induction n with
  | zero =>
   intro d h
   exact ⟨true, Ev.step (f := fun _ => some true) (fun k => by simp only [codewrightref04_irreducible.l0]; rw [w64 (by omega) (by omega), if_neg (by omega)]) (Ev.now _)⟩
  | succ n ih =>
   intro d h
   by_cases c : 2 * (d + 1) ≤ mod.length
   ·have hpow := pow_le (p := P) (by omega) (show d + 1 ≤ mod.length by omega)
    have hpos : 0 < P ^ (d + 1) := Int.pow_pos (by omega)
    obtain ⟨cnt, hcnt⟩ : ∃ cnt : Nat, P ^ (d + 1) = (cnt : Int) := ⟨(P ^ (d + 1)).toNat, by omega⟩
    have inner : ∀ t v, v + t = cnt → ∃ b, Ev (fun k => codewrightref04_irreducible.l1 k mod P (P ^ (d + 1)) ((d + 1 : Nat) : Int) (v : Int)) b := by
     intro t
     induction t with
     | zero =>
      intro v hv
      obtain ⟨b, hb⟩ := ih (d + 1) (by omega)
      exact ⟨b, Ev.step (fun k => by simp only [codewrightref04_irreducible.l1]; rw [if_neg (by omega), w1 (by omega)]) hb⟩
     | succ t iht =>
      intro v hv
      have hK : Pm P ((d + 1 : Nat) : Int) (List.replicate (d + 1) 0) (rpOf P (d + 1) (List.replicate (d + 1) 0) hp (by omega)) :=
       { p := rfl, m := rfl, low := fun _ => rfl, m8 := by show d + 1 ≤ 8; omega, q256 := by show P ^ (d + 1) ≤ 256; omega, modl := fun _ => by simp; rfl, modb := fun i => by rw [getD_rep]; exact ⟨Int.le_refl _, by show (0 : Int) < P; omega⟩, mod1 := fun _ i => getD_rep _ _ _, mlen := by simp; omega }
      obtain ⟨r, r0, r1, r2⟩ := digits_ev hK (v : Int) (by omega) (by show (v : Int) < P ^ (d + 1); omega)
      have r1' : r.length = d + 1 := r1
      obtain ⟨b, hb⟩ := divides_tot r mod hp hp' (by omega) (by omega) hm (fun i => by
       have := congrFun r2 i
       have e : r.getD i 0 = _ := this
       rw [e]
       exact ⟨Rp.dig_nonneg _ _ _, Rp.dig_lt _ _ _⟩) hmr
      cases b with
      | true =>
       refine ⟨false, Ev.step (f := fun k => (codewrightref04_digits.f k (v : Int) P ((d + 1 : Nat) : Int)).bind fun t => (codewrightref04_divides.f k t mod P).bind fun u => if u = true then some false else codewrightref04_irreducible.l1 k mod P (P ^ (d + 1)) ((d + 1 : Nat) : Int) ((v + 1 : Nat) : Int)) (fun k => ?_) (Ev.bind r0 (Ev.bind hb (Ev.congr (f := fun _ => some false) (fun k => ?_) (Ev.now _))))⟩
       ·simp only [codewrightref04_irreducible.l1]
        rw [if_pos (by omega), w1 (by omega)]
       ·rw [if_pos rfl]
      | false =>
       obtain ⟨b2, hb2⟩ := iht (v + 1) (by omega)
       refine ⟨b2, Ev.step (f := fun k => (codewrightref04_digits.f k (v : Int) P ((d + 1 : Nat) : Int)).bind fun t => (codewrightref04_divides.f k t mod P).bind fun u => if u = true then some false else codewrightref04_irreducible.l1 k mod P (P ^ (d + 1)) ((d + 1 : Nat) : Int) ((v + 1 : Nat) : Int)) (fun k => ?_) (Ev.bind r0 (Ev.bind hb (Ev.congr (fun k => ?_) hb2)))⟩
       ·simp only [codewrightref04_irreducible.l1]
        rw [if_pos (by omega), w1 (by omega)]
       ·rw [if_neg (by simp)]
    obtain ⟨b, hb⟩ := inner cnt 0 (by omega)
    have e : P ^ (d + 1) = P ^ d * P := Int.pow_succ _ _
    refine ⟨b, Ev.step (fun k => ?_) hb⟩
    simp only [codewrightref04_irreducible.l0]
    rw [w64 (x := 2 * ((d + 1 : Nat) : Int)) (by omega) (by omega), if_pos (by omega), ← e, w64 (x := P ^ (d + 1)) (by omega) (by omega)]
    rfl
   ·exact ⟨true, Ev.step (f := fun _ => some true) (fun k => by simp only [codewrightref04_irreducible.l0]; rw [w64 (by omega) (by omega), if_neg (by omega)]) (Ev.now _)⟩
 obtain ⟨b, hb⟩ := key (mod.length + 1) 0 (by omega)
 rw [Int.pow_zero] at hb
 exact ⟨b, Ev.congr (fun k => rfl) hb⟩
end Go.Proofs.Ytgjphmcofmkmfaa.G
namespace Go.Proofs.Ytgjphmcofmkmfaa.G
open Go.RowKit Go.Proofs.YtgjphmcofmkmfaaW.PrintWords Go.Proofs.YtgjphmcofmkmfaaW.PrintLast Go.Proofs.YtgjphmcofmkmfaaW.PrintMore
open Go.Proofs.Ytgjphmcofmkmfaa.Al
variable {P M : Int} {Mod : List Int} {K : Rp}
theorem check_ev (P M : Int) (Mod : List Int) : ∃ t, Ev (fun k => codewrightref04_Check.f k P M Mod) t ∧ (t = 0 → ∃ K, Pm P M Mod K) := by
 obtain ⟨r, hr, h⟩ := order_tot P M Mod
 have bad : Ev (fun k => codewrightref04_Check.j0 k true P M Mod) 1 := Ev.step (f := fun _ => some 1) (fun k => by simp only [codewrightref04_Check.j0]; rw [if_pos trivial]) (Ev.now _)
 rcases h with h | ⟨p2, p256, m, rfl, m1, m8, hrq, q256⟩
 ·exact ⟨1, Ev.bind hr (Ev.congr (fun k => by rw [if_pos h]) bad), fun e => absurd e (by omega)⟩
 have hpos : 0 < P ^ m := Int.pow_pos (by omega)
 have r0 : ¬ r = 0 := by omega
 obtain ⟨pn, rfl⟩ : ∃ pn : Nat, P = (pn : Int) := ⟨P.toNat, by omega⟩
 obtain ⟨b, hb⟩ := prime_tot pn (by omega)
 suffices main : ∃ t, Ev (fun k => codewrightref04_Check.j0 k (!b) (pn : Int) (m : Int) Mod) t ∧ (t = 0 → ∃ K, Pm (pn : Int) (m : Int) Mod K) by
  obtain ⟨t, ht, h2⟩ := main
  exact ⟨t, Ev.bind hr (Ev.congr (fun k => by rw [if_neg r0]) (Ev.bind hb ht)), h2⟩
 cases b with
 | false => exact ⟨1, bad, fun e => absurd e (by omega)⟩
 | true =>
  by_cases c1 : (m : Int) = 1
  ·by_cases c2 : (Mod.length : Int) = 0
   ·refine ⟨0, Ev.step (f := fun _ => some 0) (fun k => by simp only [codewrightref04_Check.j0]; rw [if_neg (by simp), if_pos c1, if_pos c2]) (Ev.now _), fun _ => ⟨rpOf (pn : Int) m Mod p2 m1, ?_⟩⟩
    have hn : Mod = [] := List.eq_nil_of_length_eq_zero (by omega)
    exact { p := rfl, m := rfl, low := fun _ => rfl, m8 := m8, q256 := by show (pn : Int) ^ m ≤ 256; omega, modl := fun h => absurd c1 h, modb := fun i => by rw [hn]; exact ⟨Int.le_refl _, by show (0 : Int) < (pn : Int); omega⟩, mod1 := fun _ i => by rw [hn]; rfl, mlen := by omega }
   ·exact ⟨1, Ev.step (f := fun _ => some 1) (fun k => by simp only [codewrightref04_Check.j0]; rw [if_neg (by simp), if_pos c1, if_neg c2]) (Ev.now _), fun e => absurd e (by omega)⟩
  ·by_cases c2 : (Mod.length : Int) = (m : Int)
   ·have key : ∀ n i, i + n = m → (∀ j, j < i → 0 ≤ Mod.getD j 0 ∧ Mod.getD j 0 < (pn : Int)) → ∃ t, Ev (fun k => codewrightref04_Check.l0 k (i : Int) (pn : Int) (m : Int) Mod) t ∧ (t = 0 → ∀ j, 0 ≤ Mod.getD j 0 ∧ Mod.getD j 0 < (pn : Int)) := by
     intro n
     induction n with
     | zero =>
      intro i hi hr
      have hall : ∀ j, 0 ≤ Mod.getD j 0 ∧ Mod.getD j 0 < (pn : Int) := fun j => by
       by_cases c : j < m
       ·exact hr j (by omega)
       ·rw [getD_none (by omega)]; omega
      obtain ⟨b, hb⟩ := irreducible_tot Mod p2 (by omega) (by rw [show Mod.length = m by omega]; omega) (by omega) hall
      refine ⟨if b = true then 0 else 1, Ev.step (f := fun k => (codewrightref04_irreducible.f k Mod (pn : Int)).bind fun t => if t = true then some 0 else some 1) (fun k => by simp only [codewrightref04_Check.l0]; rw [if_neg (by omega)]) (Ev.bind hb (Ev.congr (f := fun _ => some (if b = true then 0 else 1)) (fun k => by split <;> rfl) (Ev.now _))), fun _ => hall⟩
     | succ n ih =>
      intro i hi hr
      by_cases d1 : Mod.getD i 0 < 0
      ·exact ⟨1, Ev.step (f := fun _ => some 1) (fun k => by simp only [codewrightref04_Check.l0]; rw [if_pos (by omega), if_pos (by omega), if_pos (by omega), rd_nat, if_pos d1]) (Ev.now _), fun e => absurd e (by omega)⟩
      ·by_cases d2 : Mod.getD i 0 ≥ (pn : Int)
       ·exact ⟨1, Ev.step (f := fun _ => some 1) (fun k => by simp only [codewrightref04_Check.l0]; rw [if_pos (by omega), if_pos (by omega), if_pos (by omega), rd_nat, if_neg d1, if_pos d2]) (Ev.now _), fun e => absurd e (by omega)⟩
       ·obtain ⟨t, ht, h3⟩ := ih (i + 1) (by omega) (fun j hj => by
         by_cases e : j = i
         ·subst e; omega
         ·exact hr j (by omega))
        exact ⟨t, Ev.step (fun k => by simp only [codewrightref04_Check.l0]; rw [if_pos (by omega), if_pos (by omega), if_pos (by omega), rd_nat, if_neg d1, if_neg d2, w1 (by omega)]) ht, h3⟩
    obtain ⟨t, ht, h3⟩ := key m 0 (by omega) (fun j hj => by omega)
    refine ⟨t, Ev.step (fun k => ?_) ht, fun e => ⟨rpOf (pn : Int) m Mod p2 m1, ?_⟩⟩
    ·simp only [codewrightref04_Check.j0]
     rw [if_neg (by simp), if_neg c1, if_pos c2]
     rfl
    ·exact { p := rfl, m := rfl, low := fun _ => rfl, m8 := m8, q256 := by show (pn : Int) ^ m ≤ 256; omega, modl := fun _ => by show Mod.length = m; omega, modb := h3 e, mod1 := fun h => by omega, mlen := by omega }
   ·exact ⟨1, Ev.step (f := fun _ => some 1) (fun k => by simp only [codewrightref04_Check.j0]; rw [if_neg (by simp), if_neg c1, if_neg c2]) (Ev.now _), fun e => absurd e (by omega)⟩
theorem forder_ev (h : Pm P M Mod K) : Ev (fun k => field_order.f k P M) K.q := by
 have hp := K.p2
 have hp' := h.p256
 have hm := h.m
 have hm1 := K.m1
 have hm8 := h.m8
 have hq := h.q256
 have hP := h.p
 obtain ⟨s, h1, hs⟩ := iterE (G := fun k s i => field_order.l0 k P s M i) (n := K.m) (Inv := fun i s => s = K.p ^ i) (fun i s hi hs => by
  have a1 := pow_le (p := K.p) (by omega) (show i + 1 ≤ K.m by omega)
  rw [Int.pow_succ] at a1
  have a0 : 0 < K.p ^ i := K.pp i
  have a2 : K.p ^ i * K.p ≤ 256 := by unfold Rp.q at hq; omega
  have a3 : 0 ≤ K.p ^ i * K.p := Int.mul_nonneg (by omega) (by omega)
  refine ⟨K.p ^ i * K.p, by rw [Int.pow_succ], fun r hr => Ev.step (fun k => ?_) hr⟩
  simp only [field_order.l0]
  rw [if_pos (by omega), hs, ← hP, w64 (by omega) (by omega), if_neg (by omega), w1 (by omega)]) K.m 0 1 (by omega) (by rw [Int.pow_zero])
 refine Ev.congr (f := fun k => field_order.j0 k P M false) (fun k => ?_) (Ev.step (f := fun k => field_order.l0 k P 1 M ((0 : Nat) : Int)) (fun k => ?_) (hs _ (Ev.step (f := fun _ => some s) (fun k => ?_) (by rw [h1]; exact Ev.now _))))
 ·simp only [field_order.f]
  rw [if_neg (by omega), if_neg (by omega), if_neg (by omega), decide_eq_false (by omega)]
 ·simp only [field_order.j0]
  rw [if_neg (by simp)]
  rfl
 ·simp only [field_order.l0]
  rw [if_neg (by omega)]
theorem isPrime_tot (n : Nat) (hn : n ≤ 256) : ∃ b, Ev (fun k => field_isPrime.f k (n : Int)) b := by
 have key : ∀ (m d : Nat), 2 ≤ d → d + m = 300 → ∃ b, Ev (fun k => field_isPrime.l0 k (n : Int) (d : Int)) b := by
  intro m
  induction m with
  | zero =>
   intro d _ h
   have : d = 300 := by omega
   subst this
   exact ⟨decide ((n : Int) ≥ 2), Ev.step (f := fun _ => some _) (fun k => by simp only [field_isPrime.l0]; rw [w64 (by omega) (by omega), if_neg (by omega)]) (Ev.now _)⟩
  | succ m ih =>
   intro d h2 h
   have d0 : (0 : Int) ≤ (d : Int) * (d : Int) := Int.mul_nonneg (by omega) (by omega)
   have d1 : (d : Int) * (d : Int) ≤ 300 * 300 := Int.mul_le_mul (by omega) (by omega) (by omega) (by omega)
   by_cases c : (d : Int) * (d : Int) ≤ (n : Int)
   ·by_cases e : Int.tmod (n : Int) (d : Int) = 0
    ·exact ⟨false, Ev.step (f := fun _ => some false) (fun k => by simp only [field_isPrime.l0]; rw [w64 (by omega) (by omega), if_pos c, if_neg (by omega), if_pos e]) (Ev.now _)⟩
    ·obtain ⟨b, hb⟩ := ih (d + 1) (by omega) (by omega)
     exact ⟨b, Ev.step (fun k => by simp only [field_isPrime.l0]; rw [w64 (x := (d : Int) * (d : Int)) (by omega) (by omega), if_pos c, if_neg (by omega), if_neg e, w1 (by omega)]) hb⟩
   ·exact ⟨decide ((n : Int) ≥ 2), Ev.step (f := fun _ => some _) (fun k => by simp only [field_isPrime.l0]; rw [w64 (by omega) (by omega), if_neg c]) (Ev.now _)⟩
 exact key 298 2 (by omega) (by omega)
theorem shape_ev (h : Pm P M Mod K) : ∃ b, Ev (fun k => field_shape.f k P M Mod) b := by
 have hp := K.p2
 have hp' := h.p256
 have hm := h.m
 have hm1 := K.m1
 have hm8 := h.m8
 have hP := h.p
 have hq := @Rp.q_gt K
 obtain ⟨b, hb⟩ := isPrime_tot P.toNat (by omega)
 rw [show ((P.toNat : Nat) : Int) = P by omega] at hb
 suffices main : ∃ t, Ev (fun k => field_shape.j0 k (!b) P M Mod) t by
  obtain ⟨t, ht⟩ := main
  exact ⟨t, Ev.bind (forder_ev h) (Ev.congr (fun k => by rw [if_neg (by omega)]) (Ev.bind hb ht))⟩
 cases b with
 | false => exact ⟨false, Ev.step (f := fun _ => some false) (fun k => by simp only [field_shape.j0]; rw [if_pos (by rfl)]) (Ev.now _)⟩
 | true =>
  by_cases c1 : M = 1
  ·exact ⟨((Mod.length : Int) == 0), Ev.step (f := fun _ => some _) (fun k => by simp only [field_shape.j0]; rw [if_neg (by simp), if_pos c1]) (Ev.now _)⟩
  ·have hML := h.modl c1
   obtain ⟨s, _, hs⟩ := iterE (G := fun k (_ : Unit) i => field_shape.l0 k Mod (Mod.length : Int) i P M Mod) (n := K.m) (Inv := fun _ _ => True) (fun i s hi _ => by
    have bm := h.modb i
    refine ⟨(), trivial, fun r hr => Ev.step (fun k => ?_) hr⟩
    simp only [field_shape.l0]
    rw [if_pos (by omega), if_pos (by omega), if_pos (by omega), rd_nat, if_neg (by omega), if_neg (by omega), w1 (by omega)]) K.m 0 () (by omega) trivial
   refine ⟨true, Ev.step (fun k => ?_) (hs true (Ev.step (f := fun _ => some true) (fun k => ?_) (Ev.now _)))⟩
   ·simp only [field_shape.j0]
    rw [if_neg (by simp), if_neg c1, if_pos (by omega)]
    rfl
   ·simp only [field_shape.l0]
    rw [if_neg (by omega)]
theorem nodup_len {α : Type} [DecidableEq α] : ∀ (l s : List α), l.Nodup → (∀ x ∈ l, x ∈ s) → l.length ≤ s.length
 | [], s, _, _ => Nat.zero_le _
 | x :: l, s, hn, hs => by
  have h1 := List.nodup_cons.1 hn
  have hx := hs x List.mem_cons_self
  have h2 := nodup_len l (s.erase x) h1.2 (fun y hy => (List.mem_erase_of_ne (by rintro rfl; exact h1.1 hy)).2 (hs y (List.mem_cons_of_mem _ hy)))
  rw [List.length_erase_of_mem hx] at h2
  have := List.length_pos_of_mem hx
  rw [List.length_cons]; omega
def ones (n : Nat) : List Int := (List.range n).map fun (i : Nat) => (i : Int) + 1
theorem mem_ones {n : Nat} {x : Int} : x ∈ ones n ↔ 1 ≤ x ∧ x ≤ n := by
 unfold ones
 rw [List.mem_map]
 constructor
 ·rintro ⟨i, hi, rfl⟩
  rw [List.mem_range] at hi
  omega
 ·intro h
  exact ⟨(x - 1).toNat, by rw [List.mem_range]; omega, by omega⟩
theorem nodup_bd {l : List Int} {q : Int} (hq : 1 ≤ q) (hn : l.Nodup) (hr : ∀ x ∈ l, 1 ≤ x ∧ x < q) : (l.length : Int) ≤ q - 1 := by
 have := nodup_len l (ones (q - 1).toNat) hn (fun x hx => mem_ones.2 (by have := hr x hx; omega))
 have e : (ones (q - 1).toNat).length = (q - 1).toNat := by unfold ones; simp
 omega
theorem nodup_all {l : List Int} {q : Int} (hq : 1 ≤ q) (hn : l.Nodup) (hr : ∀ x ∈ l, 1 ≤ x ∧ x < q) (hl : (l.length : Int) = q - 1) (y : Int) (h1 : 1 ≤ y) (h2 : y < q) : y ∈ l := by
 refine Classical.byContradiction fun c => ?_
 have := nodup_len (y :: l) (ones (q - 1).toNat) (List.nodup_cons.2 ⟨c, hn⟩) (fun x hx => by
  rcases List.mem_cons.1 hx with rfl | hx
  ·exact mem_ones.2 (by omega)
  ·exact mem_ones.2 (by have := hr x hx; omega))
 have e : (ones (q - 1).toNat).length = (q - 1).toNat := by unfold ones; simp
 rw [List.length_cons] at this
 omega
structure PW (K : Rp) (X : K.E) (r : List Int) : Prop where
 nodup : r.Nodup
 rng : ∀ x ∈ r, 1 ≤ x ∧ x < K.q
 at_ : ∀ i, i < r.length → r.getD i 0 = (pw X i).1
theorem powers_ev (h : Pm P M Mod K) (X : K.E) : ∃ r, Ev (fun k => field_powers.f k P M Mod K.q X.1) r ∧ PW K X r := by
 have hq := @Rp.q_gt K
 have hq2 := h.q256
 obtain ⟨q, hqq⟩ : ∃ q : Nat, K.q = (q : Int) := ⟨K.q.toNat, by omega⟩
 have key : ∀ c (r : List Int) (seen : List Bool), r.length + c = q → 1 ≤ r.length → PW K X r → seen.length = q → (∀ z : Nat, z < q → (seen.getD z false = true ↔ (z : Int) ∈ r)) → ∃ r', Ev (fun k => field_powers.l0 k X.1 r seen (pw X r.length).1 P M Mod) r' ∧ PW K X r' := by
  intro c
  induction c with
  | zero =>
   intro r seen hc h1 hpw hsl hs
   have := nodup_bd (by omega) hpw.nodup hpw.rng
   omega
  | succ c ih =>
   intro r seen hc h1 hpw hsl hs
   obtain ⟨y, hy⟩ : ∃ y, y = pw X r.length := ⟨_, rfl⟩
   rw [← hy]
   have hy1 := y.2.1
   have hy2 := y.2.2
   by_cases c0 : y.1 = 0
   ·exact ⟨r, Ev.step (f := fun _ => some r) (fun k => by simp only [field_powers.l0]; rw [if_pos c0]) (Ev.now _), hpw⟩
   ·obtain ⟨z, hz⟩ : ∃ z : Nat, y.1 = (z : Int) := ⟨y.1.toNat, by omega⟩
    have hrd : rdOf false seen y.1 = seen.getD z false := by unfold rdOf; rw [hz, Int.toNat_natCast]
    by_cases c1 : seen.getD z false = true
    ·exact ⟨r, Ev.step (f := fun _ => some r) (fun k => by simp only [field_powers.l0]; rw [if_neg c0, if_pos (by omega), if_pos (by omega), hrd, if_pos c1]) (Ev.now _), hpw⟩
    ·have hnm : (z : Int) ∉ r := fun hm => c1 ((hs z (by omega)).2 hm)
     have hl : (r ++ [y.1]).length = r.length + 1 := by simp
     have hpw' : PW K X (r ++ [y.1]) := {
      nodup := by
       rw [List.nodup_append]
       refine ⟨hpw.nodup, by simp, fun a ha b hb => ?_⟩
       rw [List.mem_singleton.1 hb]
       exact fun e => hnm (by rw [← hz, ← e]; exact ha)
      rng := fun x hx => by
       rcases List.mem_append.1 hx with hx | hx
       ·exact hpw.rng x hx
       ·rw [List.mem_singleton.1 hx]; omega
      at_ := fun i hi => by
       rw [List.getD_eq_getElem?_getD, List.getElem?_append]
       by_cases ci : i < r.length
       ·rw [if_pos ci, ← List.getD_eq_getElem?_getD]; exact hpw.at_ i ci
       ·have : i = r.length := by omega
        subst this
        rw [if_neg (by omega), Nat.sub_self, hy]
        rfl }
     obtain ⟨r', hr', hp'⟩ := ih (r ++ [y.1]) (seen.set z true) (by omega) (by omega) hpw' (by rw [List.length_set, hsl]) (fun w hw => by
      rw [getD_set _ _ _ _ _ (by omega), List.mem_append, List.mem_singleton, hz]
      by_cases e : w = z
      ·subst e; rw [if_pos rfl]; exact ⟨fun _ => .inr rfl, fun _ => rfl⟩
      ·rw [if_neg e, hs w hw]
       exact ⟨fun h => .inl h, fun h => h.elim id (fun h => by omega)⟩)
     rw [hl, pw_succ, ← hy] at hr'
     refine ⟨r', Ev.step (f := fun k => (field_multiply.f k P M Mod y.1 X.1).bind fun t => field_powers.l0 k X.1 (r ++ [y.1]) (seen.set z true) t P M Mod) (fun k => ?_) (Ev.bind (fmul_ev h y X) hr'), hp'⟩
     simp only [field_powers.l0]
     rw [if_neg c0, if_pos (by omega), if_pos (by omega), hrd, if_neg c1, if_pos (by omega), hz, Int.toNat_natCast]
 have one : PW K X [1] := {
  nodup := by simp
  rng := fun x hx => by rw [List.mem_singleton.1 hx]; omega
  at_ := fun i hi => by
   have : i = 0 := by simp at hi; omega
   subst this
   exact Rp.one_val.symm }
 obtain ⟨r, hr, hp⟩ := key (q - 1) [1] ((List.replicate q false).set 1 true) (by simp; omega) (by simp) one (by simp) (fun z hz => by
  rw [getD_set _ _ _ _ _ (by simp; omega), getD_rep, List.mem_singleton]
  by_cases e : z = 1
  ·subst e; rw [if_pos rfl]; exact ⟨fun _ => rfl, fun _ => rfl⟩
  ·rw [if_neg e]; exact ⟨fun h => (by cases h), fun h => (by omega)⟩)
 refine ⟨r, Ev.congr (fun k => ?_) hr, hp⟩
 simp only [field_powers.f]
 rw [if_pos (by omega), if_pos (by omega), Option.bind_some, if_pos (by simp; omega), show K.q.toNat = q by omega]
 have e1 : pw X ([1] : List Int).length = X := pw_fst X
 rw [e1]
 rfl
theorem generator_ev (h : Pm P M Mod K) : ∃ r, Ev (fun k => field_generator.f k P M Mod K.q) r ∧ (r = [] ∨ ∃ X : K.E, PW K X r ∧ (r.length : Int) = K.q - 1 ∧ pw X r.length = 1) := by
 have hq := @Rp.q_gt K
 have hq2 := h.q256
 obtain ⟨q, hqq⟩ : ∃ q : Nat, K.q = (q : Int) := ⟨K.q.toNat, by omega⟩
 have key : ∀ n x, 1 ≤ x → x + n = q → ∃ r, Ev (fun k => field_generator.l0 k K.q (x : Int) P M Mod) r ∧ (r = [] ∨ ∃ X : K.E, PW K X r ∧ (r.length : Int) = K.q - 1 ∧ pw X r.length = 1) := by
  intro n
  induction n with
  | zero =>
   intro x _ hx
   exact ⟨[], Ev.step (f := fun _ => some []) (fun k => by simp only [field_generator.l0]; rw [if_neg (by omega)]) (Ev.now _), .inl rfl⟩
  | succ n ih =>
   intro x h1 hx
   obtain ⟨r2, hr2, h2⟩ := ih (x + 1) (by omega) (by omega)
   obtain ⟨X, hX⟩ : ∃ X : K.E, X.1 = (x : Int) := ⟨⟨(x : Int), by omega, by omega⟩, rfl⟩
   obtain ⟨t, ht, hpw⟩ := powers_ev h X
   rw [hX] at ht
   by_cases c : (t.length : Int) = K.q - 1
   ·have g1 : t.getD (q - 2) 0 = (pw X (q - 2)).1 := hpw.at_ _ (by omega)
    have hm := fmul_ev h (pw X (q - 2)) X
    rw [← pw_succ, ← g1, hX] at hm
    by_cases c1 : (pw X (q - 2 + 1)).1 = 1
    ·refine ⟨t, Ev.step (f := fun k => (field_powers.f k P M Mod K.q (x : Int)).bind fun t => if (t.length : Int) = wrap64 (K.q - 1) then (if 0 ≤ wrap64 (K.q - 2) then (if wrap64 (K.q - 2) < (t.length : Int) then ((field_multiply.f k P M Mod (rd t (wrap64 (K.q - 2))) (x : Int)).bind fun u => if u = 1 then some t else field_generator.l0 k K.q (wrap64 ((x : Int) + 1)) P M Mod) else none) else none) else field_generator.l0 k K.q (wrap64 ((x : Int) + 1)) P M Mod) (fun k => ?_) (Ev.bind ht (Ev.congr (f := fun k => (field_multiply.f k P M Mod (t.getD (q - 2) 0) (x : Int)).bind fun u => if u = 1 then some t else field_generator.l0 k K.q (wrap64 ((x : Int) + 1)) P M Mod) (fun k => ?_) (Ev.bind hm (Ev.congr (f := fun _ => some t) (fun k => ?_) (Ev.now _))))), .inr ⟨X, hpw, c, Rp.E.val_inj ?_⟩⟩
     ·simp only [field_generator.l0]
      rw [if_pos (by omega)]
     ·rw [w64 (x := K.q - 1) (by omega) (by omega), if_pos c, weq (x := K.q - 2) (y := ((q - 2 : Nat) : Int)) (by omega) (by omega) (by omega), if_pos (by omega), if_pos (by omega), rd_nat]
     ·rw [if_pos c1]
     ·rw [show t.length = q - 2 + 1 by omega, c1]; exact Rp.one_val.symm
    ·refine ⟨r2, Ev.step (f := fun k => (field_powers.f k P M Mod K.q (x : Int)).bind fun t => if (t.length : Int) = wrap64 (K.q - 1) then (if 0 ≤ wrap64 (K.q - 2) then (if wrap64 (K.q - 2) < (t.length : Int) then ((field_multiply.f k P M Mod (rd t (wrap64 (K.q - 2))) (x : Int)).bind fun u => if u = 1 then some t else field_generator.l0 k K.q (wrap64 ((x : Int) + 1)) P M Mod) else none) else none) else field_generator.l0 k K.q (wrap64 ((x : Int) + 1)) P M Mod) (fun k => ?_) (Ev.bind ht (Ev.congr (f := fun k => (field_multiply.f k P M Mod (t.getD (q - 2) 0) (x : Int)).bind fun u => if u = 1 then some t else field_generator.l0 k K.q (wrap64 ((x : Int) + 1)) P M Mod) (fun k => ?_) (Ev.bind hm (Ev.congr (fun k => ?_) hr2)))), h2⟩
     ·simp only [field_generator.l0]
      rw [if_pos (by omega)]
     ·rw [w64 (x := K.q - 1) (by omega) (by omega), if_pos c, weq (x := K.q - 2) (y := ((q - 2 : Nat) : Int)) (by omega) (by omega) (by omega), if_pos (by omega), if_pos (by omega), rd_nat]
     ·rw [if_neg c1, w1 (by omega)]
   ·refine ⟨r2, Ev.step (f := fun k => (field_powers.f k P M Mod K.q (x : Int)).bind fun t => if (t.length : Int) = wrap64 (K.q - 1) then (if 0 ≤ wrap64 (K.q - 2) then (if wrap64 (K.q - 2) < (t.length : Int) then ((field_multiply.f k P M Mod (rd t (wrap64 (K.q - 2))) (x : Int)).bind fun u => if u = 1 then some t else field_generator.l0 k K.q (wrap64 ((x : Int) + 1)) P M Mod) else none) else none) else field_generator.l0 k K.q (wrap64 ((x : Int) + 1)) P M Mod) (fun k => ?_) (Ev.bind ht (Ev.congr (fun k => ?_) hr2)), h2⟩
    ·simp only [field_generator.l0]
     rw [if_pos (by omega)]
    ·rw [w64 (x := K.q - 1) (by omega) (by omega), if_neg c, w1 (by omega)]
 obtain ⟨r, hr, h2⟩ := key (q - 1) 1 (by omega) (by omega)
 exact ⟨r, Ev.congr (fun k => rfl) hr, h2⟩
end Go.Proofs.Ytgjphmcofmkmfaa.G
namespace Go.Proofs.Ytgjphmcofmkmfaa.G
open Go.RowKit Go.Proofs.YtgjphmcofmkmfaaW.PrintWords Go.Proofs.YtgjphmcofmkmfaaW.PrintLast Go.Proofs.YtgjphmcofmkmfaaW.PrintMore
open Go.Proofs.Ytgjphmcofmkmfaa.Al
variable {P M : Int} {Mod : List Int} {K : Rp}
theorem Ev_bindc {α β : Type} {g : Nat → Option α} {F : Nat → α → Option β} {G : Nat → Option β} {a : α} {r : β} (h : Ev g a) (e : ∀ k, F k a = G k) (k : Ev G r) : Ev (fun n => (g n).bind (F n)) r := Ev.bind h (Ev.congr e k)
theorem nodup_at {l : List Int} (h : l.Nodup) {i j : Nat} (hi : i < l.length) (hj : j < l.length) (e : l.getD i 0 = l.getD j 0) : i = j := by
 rw [List.getD_eq_getElem?_getD, List.getD_eq_getElem?_getD, List.getElem?_eq_getElem hi, List.getElem?_eq_getElem hj] at e
 have e' : l[i] = l[j] := e
 have hp := List.pairwise_iff_getElem.1 h
 rcases Nat.lt_trichotomy i j with c | c | c
 ·exact absurd e' (hp i j hi hj c)
 ·exact c
 ·exact absurd e'.symm (hp j i hj hi c)
structure Gen (K : Rp) (X : K.E) (ex lg : List Int) : Prop where
 pw : PW K X ex
 len : (ex.length : Int) = K.q - 1
 one : Al.pw X ex.length = 1
 log : ∀ i, i < ex.length → rd lg (ex.getD i 0) = (i : Int)
theorem New_ev (h : Pm P M Mod K) : ∃ n, Ev (fun k => field_New.f k P M Mod) n ∧ (n.2.1 = [] ∨ (n.1 = K.q ∧ ∃ X, Gen K X n.2.1 n.2.2)) := by
 have hq := @Rp.q_gt K
 have hq2 := h.q256
 have hm := h.m
 have hm8 := h.m8
 obtain ⟨q, hqq⟩ : ∃ q : Nat, K.q = (q : Int) := ⟨K.q.toNat, by omega⟩
 have hML := h.mlen
 obtain ⟨b, hb⟩ := shape_ev h
 cases b with
 | false => exact ⟨(0, [], []), Ev.bind hb (Ev.congr (f := fun _ => some (0, [], [])) (fun k => by rw [if_neg (by simp)]) (Ev.now _)), .inl rfl⟩
 | true =>
  obtain ⟨r, hr, h2⟩ := generator_ev h
  rcases h2 with h2 | ⟨X, hpw, hl, h1⟩
  ·refine ⟨(0, [], []), Ev.bind hb (Ev.congr (fun k => by rw [if_pos rfl]) (Ev.bind (forder_ev h) ?_)), .inl rfl⟩
   refine Ev_bindc hr (G := fun _ => some (0, [], [])) (fun k => ?_) (Ev.now _)
   rw [if_pos (by rw [h2]; rfl)]
  ·obtain ⟨lg, ⟨g1, g2⟩, hs⟩ := iterE (G := fun k s i => field_New.l0 k s r (r.length : Int) i) (n := r.length)
    (Inv := fun i s => s.length = q ∧ ∀ j, j < i → rd s (r.getD j 0) = (j : Int)) (fun i s hi ⟨g1, g2⟩ => by
     have hmem : r.getD i 0 ∈ r := by
      rw [List.getD_eq_getElem?_getD, List.getElem?_eq_getElem hi]; exact List.getElem_mem hi
     have hri := hpw.rng _ hmem
     refine ⟨s.set (r.getD i 0).toNat (i : Int), ⟨by rw [List.length_set, g1], fun j hj => ?_⟩, fun r' hr' => Ev.step (fun k => ?_) hr'⟩
     ·unfold rd
      rw [getD_set _ _ _ _ _ (by omega)]
      by_cases e : j = i
      ·subst e; rw [if_pos rfl]
      ·have hmj : r.getD j 0 ∈ r := by
        rw [List.getD_eq_getElem?_getD, List.getElem?_eq_getElem (by omega)]; exact List.getElem_mem _
       have hrj := hpw.rng _ hmj
       rw [if_neg (fun e2 => e (nodup_at hpw.nodup (by omega) hi (by omega)))]
       exact g2 j (by omega)
     ·simp only [field_New.l0]
      rw [if_pos (by omega), if_pos (by omega), if_pos (by omega), rd_nat, if_pos (by omega), if_pos (by omega), w1 (by omega)]) r.length 0 (List.replicate q 0) (by omega) ⟨by simp, fun j hj => by omega⟩
   refine ⟨(K.q, r, lg), Ev.bind hb (Ev.congr (fun k => by rw [if_pos rfl]) (Ev.bind (forder_ev h) (Ev.bind hr (Ev.congr (f := fun k => (field_New.l0 k (List.replicate q 0) r (r.length : Int) ((0 : Nat) : Int)).bind fun lg_ => some (K.q, r, lg_)) (fun k => ?_) (Ev.bind (hs lg (Ev.step (f := fun _ => some lg) (fun k => ?_) (Ev.now _))) (Ev.now _)))))), .inr ⟨rfl, X, hpw, hl, h1, g2⟩⟩
   ·rw [if_neg (by omega), if_pos (by simp; omega), if_pos (by omega), if_pos (by omega), show K.q.toNat = q by omega]
    rfl
   ·simp only [field_New.l0]
    rw [if_neg (by omega)]
theorem pw_mod {X : K.E} {n : Nat} (_hn : 0 < n) (h : Al.pw X n = 1) (m : Nat) : Al.pw X (m % n) = Al.pw X m := by
 have e : m = n * (m / n) + m % n := (Nat.div_add_mod m n).symm
 conv => rhs; rw [e]
 rw [pw_add, ← pw_pw, h, pw_one, om]
theorem gen_all {X : K.E} {ex lg : List Int} (g : Gen K X ex lg) (z : K.E) (hz : z ≠ 0) : ∃ i, i < ex.length ∧ z = Al.pw X i ∧ rd lg z.1 = (i : Int) ∧ ex.getD i 0 = z.1 := by
 have hq := @Rp.q_gt K
 have z1 := z.2.1
 have z2 := z.2.2
 have z0 : z.1 ≠ 0 := fun e => hz (Rp.E.val_inj e)
 have hm := nodup_all (by omega) g.pw.nodup g.pw.rng g.len z.1 (by omega) z2
 obtain ⟨i, hi, e⟩ := mem_getD hm
 refine ⟨i, hi, Rp.E.val_inj ?_, by rw [← e]; exact g.log i hi, e⟩
 rw [← e]; exact g.pw.at_ i hi
theorem gen_dom {X : K.E} {ex lg : List Int} (g : Gen K X ex lg) : Dom K.E := fun a b h => by
 refine Classical.byContradiction fun c => ?_
 have ha : a ≠ 0 := fun e => c (.inl e)
 have hb : b ≠ 0 := fun e => c (.inr e)
 obtain ⟨i, hi, ea, _⟩ := gen_all g a ha
 obtain ⟨j, hj, eb, _⟩ := gen_all g b hb
 have h1 : Al.pw X (i + j) * Al.pw X (ex.length - i + (ex.length - j)) = 1 := by
  rw [← pw_add, show i + j + (ex.length - i + (ex.length - j)) = ex.length + ex.length by omega, pw_add, g.one, mo]
 rw [pw_add X i j, ← ea, ← eb, h, zm] at h1
 have := congrArg Subtype.val h1
 rw [Rp.zero_val, Rp.one_val] at this
 omega
theorem addD_sm (p : Int) (hp : 0 ≤ p) : ∀ (n : Nat) (x y : Int), addD p n x y = sm n (fun i => (x / p ^ i % p + y / p ^ i % p) % p * p ^ i)
 | 0, x, y => rfl
 | n + 1, x, y => by
  rw [addD, addD_sm p hp n, sm_front, sm_mul, Int.pow_zero, Int.mul_one, Int.ediv_one, Int.ediv_one]
  congr 1
  exact sm_congr fun i _ => by
   rw [Rp.div_pow_succ x p hp, Rp.div_pow_succ y p hp, Int.pow_succ]
   show p * (_ * p ^ i) = _ * (p ^ i * p)
   rw [Int.mul_comm p, Int.mul_assoc]
theorem negD_sm (p : Int) (hp : 0 ≤ p) : ∀ (n : Nat) (x : Int), negD p n x = sm n (fun i => (p - x / p ^ i % p) % p * p ^ i)
 | 0, x => rfl
 | n + 1, x => by
  rw [negD, negD_sm p hp n, sm_front, sm_mul, Int.pow_zero, Int.mul_one, Int.ediv_one]
  congr 1
  exact sm_congr fun i _ => by
   rw [Rp.div_pow_succ x p hp, Int.pow_succ]
   show p * (_ * p ^ i) = _ * (p ^ i * p)
   rw [Int.mul_comm p, Int.mul_assoc]
theorem dig_high {x : Int} (h0 : 0 ≤ x) (h1 : x < K.q) {i : Nat} (hi : K.m ≤ i) : x / K.p ^ i = 0 :=
 Int.ediv_eq_zero_of_lt h0 (Int.lt_of_lt_of_le h1 (pow_le (by have := K.p2; omega) hi))
theorem gen_fd (h : Pm P M Mod K) {X : K.E} {ex lg : List Int} (g : Gen K X ex lg) (b : Nat) : Fd (GFd.mk b P M Mod K.q ex lg) K := by
 have hp := K.p2
 have hm8 := h.m8
 have hP := h.p
 have hq := @Rp.q_gt K
 have hq2 := h.q256
 have hinn : ∀ x, (GFd.mk b P M Mod K.q ex lg).inn x = K.inn x := fun x => rfl
 refine { q := rfl, q256 := h.q256, add := fun x y => ?_, mul := fun x y => ?_, neg := fun x => ?_, dom := gen_dom g }
 ·rw [Rp.add_el]
  show addD P 8 (K.inn x) (K.inn y) = _
  rw [← hP, addD_sm K.p (by omega)]
  unfold Rp.el Rp.vl
  rw [sm_ext hm8]
  ·exact sm_congr fun i hi => by
    show _ = (K.dig (K.inn x) i + K.dig (K.inn y) i) % K.p * _
    unfold Rp.dig
    rw [if_pos hi, if_pos hi]
  ·intro i hi _
   rw [dig_high (Rp.inn_bd x).1 (Rp.inn_bd x).2 hi, dig_high (Rp.inn_bd y).1 (Rp.inn_bd y).2 hi, Int.zero_emod, Int.add_zero, Int.zero_emod, Int.zero_mul]
 ·show (GFd.mk b P M Mod K.q ex lg).mulI (K.inn x) (K.inn y) = _
  unfold GFd.mulI
  by_cases c : K.inn x = 0 ∨ K.inn y = 0
  ·rw [if_pos c]
   rcases c with c | c
   ·rw [Rp.inE_z.2 c, zm]; exact Rp.zero_val.symm
   ·rw [Rp.inE_z.2 c, mz]; exact Rp.zero_val.symm
  ·rw [if_neg c]
   obtain ⟨i, hi, e1, e2, _⟩ := gen_all g (K.inE x) (fun e => c (.inl (Rp.inE_z.1 e)))
   obtain ⟨j, hj, f1, f2, _⟩ := gen_all g (K.inE y) (fun e => c (.inr (Rp.inE_z.1 e)))
   show rd ex ((rd lg (K.inE x).1 + rd lg (K.inE y).1) % (K.q - 1)) = _
   have hl := g.len
   have em : ((i : Int) + (j : Int)) % (K.q - 1) = (((i + j) % ex.length : Nat) : Int) := by
    rw [← hl]; push_cast; rfl
   rw [e2, f2, em, rd_nat, g.pw.at_ _ (Nat.mod_lt _ (by omega)), pw_mod (by omega) g.one, pw_add, ← e1, ← f1]
 ·rw [Rp.neg_el]
  show negD P 8 (K.inn x) = _
  rw [← hP, negD_sm K.p (by omega)]
  unfold Rp.el Rp.vl
  rw [sm_ext hm8]
  ·exact sm_congr fun i hi => by
    show _ = (-K.dig (K.inn x) i) % K.p * _
    unfold Rp.dig
    rw [if_pos hi]
    congr 1
    have := Int.add_emod_right (-(K.inn x / K.p ^ i % K.p)) K.p
    rw [← this]
    congr 1
    omega
  ·intro i hi _
   rw [dig_high (Rp.inn_bd x).1 (Rp.inn_bd x).2 hi, Int.zero_emod, Int.sub_zero, Int.emod_self, Int.zero_mul]
theorem made_ev (P M : Int) (Mod : List Int) : ∃ o, Ev (fun k => codewrightlaw40_made.f k P M Mod) o ∧ ∀ q ex lg, o = some (q, ex, lg) → ∃ K, Pm P M Mod K ∧ (∃ X, Gen K X ex lg) ∧ ∀ b, Fd (GFd.mk b P M Mod q ex lg) K := by
 obtain ⟨t, ht, h⟩ := check_ev P M Mod
 by_cases c : t = 0
 ·obtain ⟨K, hK⟩ := h c
  obtain ⟨n, hn, h2⟩ := New_ev hK
  rcases h2 with h2 | ⟨h2, X, g⟩
  ·exact ⟨none, Ev.bind ht (Ev.congr (fun k => by rw [if_pos c]) (Ev.bind hn (Ev.congr (f := fun _ => some none) (fun k => by rw [if_pos h2]) (Ev.now _)))), fun q ex lg e => by cases e⟩
  ·have hq := @Rp.q_gt K
   have hne : ¬ n.2.1 = [] := fun e => by
    have := g.len
    rw [e] at this
    simp at this
    omega
   refine ⟨some n, Ev.bind ht (Ev.congr (fun k => by rw [if_pos c]) (Ev.bind hn (Ev.congr (f := fun _ => some (some n)) (fun k => by rw [if_neg hne]) (Ev.now _)))), fun q ex lg e => ⟨K, hK, ?_⟩⟩
   obtain rfl := Option.some.inj e
   exact ⟨⟨X, g⟩, fun b => by
    have h3 : q = K.q := h2
    rw [h3]; exact gen_fd hK g b⟩
 ·exact ⟨none, Ev.bind ht (Ev.congr (f := fun _ => some none) (fun k => by rw [if_neg c]) (Ev.now _)), fun q ex lg e => by cases e⟩
end Go.Proofs.Ytgjphmcofmkmfaa.G
namespace Go.Proofs.Ytgjphmcofmkmfaa.G
open Go.RowKit Go.Proofs.YtgjphmcofmkmfaaW.PrintWords Go.Proofs.YtgjphmcofmkmfaaW.PrintLast Go.Proofs.YtgjphmcofmkmfaaW.PrintMore
open Go.Proofs.Ytgjphmcofmkmfaa.Al
variable {P M : Int} {Mod : List Int} {K : Rp} {a : GFd}
theorem rd3_nat (l : List (List (List Int))) (i : Nat) : rd_L3 l (i : Int) = l.getD i [] := by first | rfl | (unfold rd_L3; rw [Int.toNat_natCast])
theorem small_ev (l : List (List (List Int))) (hl : l.length ≤ 100) : ∃ s, Ev (fun k => codewrightlaw40_small.f k l) s ∧ (s = true → ∀ i, (l.getD i []).length ≤ 6 ∧ ∀ j, ((l.getD i []).getD j []).length ≤ 12) := by
 have key : ∀ n i, i + n = l.length → (∀ i', i' < i → (l.getD i' []).length ≤ 6 ∧ ∀ j, ((l.getD i' []).getD j []).length ≤ 12) → ∃ s, Ev (fun k => codewrightlaw40_small.l0 k l (l.length : Int) (i : Int)) s ∧ (s = true → ∀ i, (l.getD i []).length ≤ 6 ∧ ∀ j, ((l.getD i []).getD j []).length ≤ 12) := by
  intro n
  induction n with
  | zero =>
   intro i hi h
   refine ⟨true, Ev.step (f := fun _ => some true) (fun k => by simp only [codewrightlaw40_small.l0]; rw [if_neg (by omega)]) (Ev.now _), fun _ i' => ?_⟩
   by_cases c : i' < i
   ·exact h i' c
   ·rw [getD_none (by omega)]
    exact ⟨by simp, fun j => by simp⟩
  | succ n ih =>
   intro i hi h
   by_cases c : (l.getD i []).length > 6
   ·exact ⟨false, Ev.step (f := fun _ => some false) (fun k => by simp only [codewrightlaw40_small.l0]; rw [if_pos (by omega), if_pos (by omega), if_pos (by omega), rd3_nat, if_pos (by omega)]) (Ev.now _), fun e => by cases e⟩
   ·have inner : ∀ m j, j + m = (l.getD i []).length → (∀ j', j' < j → ((l.getD i []).getD j' []).length ≤ 12) → ∃ s, Ev (fun k => codewrightlaw40_small.l1 k l (l.length : Int) (i : Int) (l.getD i []) ((l.getD i []).length : Int) (j : Int)) s ∧ (s = true → ∀ i, (l.getD i []).length ≤ 6 ∧ ∀ j, ((l.getD i []).getD j []).length ≤ 12) := by
     intro m
     induction m with
     | zero =>
      intro j hj h2
      obtain ⟨s, hs, h3⟩ := ih (i + 1) (by omega) (fun i' hi' => by
       by_cases e : i' = i
       ·subst e
        refine ⟨by omega, fun j' => ?_⟩
        by_cases c2 : j' < j
        ·exact h2 j' c2
        ·rw [getD_none (l := l.getD i' []) (by omega)]; simp
       ·exact h i' (by omega))
      exact ⟨s, Ev.step (fun k => by simp only [codewrightlaw40_small.l1]; rw [if_neg (by omega), w1 (by omega)]) hs, h3⟩
     | succ m ihm =>
      intro j hj h2
      by_cases d : ((l.getD i []).getD j []).length > 12
      ·exact ⟨false, Ev.step (f := fun _ => some false) (fun k => by simp only [codewrightlaw40_small.l1]; rw [if_pos (by omega), if_pos (by omega), if_pos (by omega), rd2_nat, if_pos (by omega)]) (Ev.now _), fun e => by cases e⟩
      ·obtain ⟨s, hs, h3⟩ := ihm (j + 1) (by omega) (fun j' hj' => by
        by_cases e : j' = j
        ·subst e; omega
        ·exact h2 j' (by omega))
       exact ⟨s, Ev.step (fun k => by simp only [codewrightlaw40_small.l1]; rw [if_pos (by omega), if_pos (by omega), if_pos (by omega), rd2_nat, if_neg (by omega), w1 (by omega)]) hs, h3⟩
    obtain ⟨s, hs, h3⟩ := inner (l.getD i []).length 0 (by omega) (fun j' h => by omega)
    refine ⟨s, Ev.step (fun k => ?_) hs, h3⟩
    simp only [codewrightlaw40_small.l0]
    rw [if_pos (by omega), if_pos (by omega), if_pos (by omega), rd3_nat, if_neg (by omega)]
    rfl
 obtain ⟨s, hs, h⟩ := key l.length 0 (by omega) (fun i h => by omega)
 exact ⟨s, Ev.congr (fun k => rfl) hs, h⟩
theorem len_of {B : Nat} {p : List (List Int)} (h : ∀ j, (p.getD j []).length ≤ B) : Len B p := fun c hc => by
 obtain ⟨i, hi, e⟩ := List.getElem_of_mem hc
 have := h i
 rw [List.getD_eq_getElem?_getD, List.getElem?_eq_getElem hi, e] at this
 exact this
theorem adds_post (F : Fd a K) (h : Pm P M Mod K) {p q : List (List Int)} (hp : p.length ≤ 6) (hq : q.length ≤ 6) (hl : Len 12 p) (hl' : Len 12 q) : AddsPost a P M Mod p q := by
 obtain ⟨c1, ⟨k1, e1⟩, b1, _, d1, _⟩ := bcanon_ev F (B := 12) (by omega) p (by omega) hl
 obtain ⟨c2, ⟨k2, e2⟩, b2, r2, d2, n2⟩ := rcanon40_ev h (B := 12) (by omega) p (by omega) hl
 obtain ⟨s1, ⟨k3, e3⟩, b3, _, d3, _⟩ := badd_ev F (B := 12) (by omega) p q (by omega) (by omega) hl hl'
 obtain ⟨s2, ⟨k4, e4⟩, b4, r4, d4, n4⟩ := radd40_ev h (B := 12) (by omega) p q (by omega) (by omega) hl hl'
 obtain ⟨m1, ⟨k5, e5⟩, b5, _, d5, _⟩ := bmul_ev F (B := 12) (by omega) p q (by omega) (by omega) hl hl'
 obtain ⟨m2, ⟨k6, e6⟩, b6, r6, d6, n6⟩ := rmul40_ev h (B := 12) (by omega) p q (by omega) (by omega) hl hl'
 obtain rfl := Rp.bcano_unique b1 b2 (d1.trans d2.symm)
 obtain rfl := Rp.bcano_unique b3 b4 (d3.trans d4.symm)
 obtain rfl := Rp.bcano_unique b5 b6 (d5.trans d6.symm)
 obtain ⟨k7, e7⟩ := same40_ev c1 (B := 12) (by omega) (by omega) r2.len
 obtain ⟨k8, e8⟩ := same40_ev s1 (B := 12) (by omega) (by omega) r4.len
 obtain ⟨k9, e9⟩ := same40_ev m1 (B := 24) (by omega) (by omega) r6.len
 refine ⟨k1 + k2 + k3 + k4 + k5 + k6 + k7 + k8 + k9, c1, c1, s1, s1, m1, m1, e1 _ (by omega), e2 _ (by omega), e7 _ (by omega), e3 _ (by omega), e4 _ (by omega), e8 _ (by omega), e5 _ (by omega), e6 _ (by omega), e9 _ (by omega)⟩
theorem adds_pure (P M : Int) (Mod : List Int) (p q : List (List Int)) : ∃ km o, codewrightlaw40_made.f km P M Mod = some o ∧ ∃ ks s, codewrightlaw40_small.f ks [p, q] = some s ∧ (s = true → ∀ a : GFd, (o = some (a.q, a.exp, a.log) ∧ a.P = P ∧ a.M = M ∧ a.Mod = Mod) → AddsPost a P M Mod p q) := by
 obtain ⟨o, ho, h⟩ := made_ev P M Mod
 obtain ⟨s, hs, h2⟩ := small_ev [p, q] (by simp)
 obtain ⟨km, hm⟩ := ho.rounds
 obtain ⟨ks, hks⟩ := hs.rounds
 refine ⟨km, o, hm, ks, s, hks, fun e a ha => ?_⟩
 obtain ⟨e1, rfl, rfl, rfl⟩ := ha
 obtain ⟨K, hK, _, hF⟩ := h _ _ _ e1
 have t1 := h2 e 0
 have t2 := h2 e 1
 exact adds_post (hF a.blk) hK t1.1 t2.1 (len_of t1.2) (len_of t2.2)
end Go.Proofs.Ytgjphmcofmkmfaa.G
namespace Go.Proofs.Ytgjphmcofmkmfaa.Head
def rest_ : String := "at codewright/codewrightlaw41.ListdecodeParams codewright/codewrightlaw41.ListdecodeLimit codewright/codewrightlaw40.BivariateAdds codewright/codewrightlaw40.BivariateDegrees codewright/codewrightlaw40.BivariateMultiplicities codewright/codewrightlaw40.BivariateRoots codewright/codewrightlaw40.BivariateAllRoots codewright/codewrightlaw40.BivariateFactors codewright/codewrightlaw40.BivariateValues codewright/codewrightlaw40.BivariateSubstitutes codewright/codewrightlaw40.BivariateHasse codewright/codewrightlaw40.BivariateTaylor codewright/codewrightlaw41.ListdecodeInterpolates codewright/codewrightlaw40.BivariateInterpolates codewright/codewrightlaw40.BivariateLeast codewright/codewrightlaw40.BivariateCounts"
theorem io_ : Try.pinned.checked.prog.initOrder = "harness 98fb069fef7de9d7e242ada11c1d17a4a9f27ce9fddb54f230d3315c0ca8d914 cut " ++ rest_ := by kernel_rfl
theorem ws_ (t : List Char) : behindMainWord (wordsSigns ("harness 98fb069fef7de9d7e242ada11c1d17a4a9f27ce9fddb54f230d3315c0ca8d914 cut ".toList ++ t)) = "cut".toList :: wordsSigns t := by kernel_rfl
theorem bw_ : behindMainWord (wordsSigns Try.pinned.checked.prog.initOrder.toList) = "cut".toList :: wordsSigns rest_.toList := by
 rw [io_, String.toList_append, ws_]
theorem lays_ : Try.pinned.checked.prog.laysLater = false := by kernel_rfl
theorem refl_ : Try.pinned.checked.prog.bearsReflect = false := by kernel_rfl
theorem door_ : Try.pinned.checked.prog.doorFits [] = true := by kernel_rfl
theorem strip_ (t : List (List Char)) : stripLifts liftWords ("cut".toList :: t) = ([], "cut".toList :: t) := by kernel_rfl
theorem enter_of {P : Program} {t : List (List Char)} (h : behindMainWord (wordsSigns P.initOrder.toList) = "cut".toList :: t) (h1 : P.laysLater = false) (h2 : P.bearsReflect = false) (h3 : P.doorFits [] = true) : P.mayEnter = true := by
 unfold Program.mayEnter
 rw [h]
 simp only [strip_, h1, h2, h3]
 kernel_rfl
theorem enter_ : Try.pinned.checked.prog.mayEnter = true := enter_of bw_ lays_ refl_ door_
theorem lifts_of {P : Program} {t : List (List Char)} (h : behindMainWord (wordsSigns P.initOrder.toList) = "cut".toList :: t) : P.headLifts = [] := by
 unfold Program.headLifts
 rw [h]
 simp only [strip_]
 kernel_rfl
theorem final_of {P : Program} {t : List (List Char)} (h : behindMainWord (wordsSigns P.initOrder.toList) = "cut".toList :: t) : P.liftsFinal = false := by
 unfold Program.liftsFinal
 rw [h, lifts_of h]
 kernel_rfl
theorem final_ : Try.pinned.checked.prog.liftsFinal = false := final_of bw_
theorem make_of {P : Program} {t : List (List Char)} (h : behindMainWord (wordsSigns P.initOrder.toList) = "cut".toList :: t) : P.make = some .cut := by
 unfold Program.make
 rw [h]
 kernel_rfl
theorem make_ : Try.pinned.checked.prog.make = some .cut := make_of bw_
end Go.Proofs.Ytgjphmcofmkmfaa.Head
namespace Go.Proofs.Ytgjphmcofmkmfaa.bivariateAdds
open Go.ChangeShapes Go.WideShapes Go.ChangeAt Go.RowKit
open Go.ChangeMaps (open_string shut_string)
open Go.Proofs.Ytgjphmcofmkmfaa.G
set_option linter.unusedVariables false
theorem own : ownKnob Try.prog.godebug = none := by kernel_rfl
theorem laid : laidOutB Try.prog = true := by kernel_rfl
theorem rr33 : Try.prog.readableRec 33 = true ∧ 33 < Try.prog.types.size := ⟨by kernel_rfl, of_decide_eq_true (by kernel_rfl)⟩
theorem rr35 : Try.prog.readableRec 35 = true ∧ 35 < Try.prog.types.size := ⟨by kernel_rfl, of_decide_eq_true (by kernel_rfl)⟩
set_option maxRecDepth 100000 in
theorem lifted (os : Os) (started : os.Started) (H : Type) (enc : TypeId × Value → H) :
  ReturnsInHanded {} Try.checked os 5 .any (Rows.bivariateAddsSpec.pre6 enc Try.prog Try.f5 Rows.bivariateAddsRow.domain false) (Rows.bivariateAddsSpec.post enc Try.prog Try.f5 false true false false) := by
 refine returnsInHanded_of_change_sized (C := Try.checked) own started (by kernel_rfl) Try.func5
  (ChangeSpec.witness6 (enc := enc) (C := Try.checked) false ⟨#[], #[.agg #[.int .i64 0, .int .i64 0, .slice none 0 0], .slice none 0 0, .slice none 0 0], []⟩ 8 (by kernel_rfl) (by kernel_rfl) (by kernel_rfl) (by kernel_rfl)) ?_
 intro W base args ds gs before hval0 hW hcnd hsz0 _; have hval : ∀ (j : Nat) t v, Try.f5.params[j]? = some t → args[j]? = some v → Value.okWide Try.prog W .any base t v := hval0; have hW' := hW; obtain ⟨p, q, hA0, hV, rfl, hfz, hnd⟩ := hW; have hA : DataW.TrodAll enc Try.prog W 0 (fun _ => true) true Try.f5.params.toList args.toList ds p := hA0; have hAk := hA; rw [Try.params5] at hA hAk hval; obtain ⟨v0, vs0, d0, ds0, p0, q0, hargs, rfl, rfl, h0, r0⟩ := trodAll_cons hA; obtain ⟨v1, vs1, d1, ds1, p1, q1, rfl, rfl, rfl, h1, r1⟩ := trodAll_cons r0; obtain ⟨v2, vs2, d2, ds2, p2, q2, rfl, rfl, rfl, h2, r2⟩ := trodAll_cons r1; obtain ⟨rfl, rfl, rfl⟩ := trodAll_nil r2; obtain rfl : args = #[v0, v1, v2] := by cases args; simp_all
 obtain ⟨rfl, rfl⟩ := trodVars_none hV; obtain ⟨P, M, A0, l0, c0, rfl, hc0, hC0, wP, wM⟩ := in_field (hval 0 33 v0 rfl rfl) h0; obtain ⟨A1, l1, c1, rfl, hc1, hC1⟩ := in_bi (hval 1 35 v1 rfl rfl) h1; obtain ⟨A2, l2, c2, rfl, hc2, hC2⟩ := in_bi (hval 2 35 v2 rfl rfl) h2; clear hA0 hval0 hsz0; obtain ⟨km, o, hm, ks, s, hs, hP⟩ := adds_pure P M l0 l1 l2; refine (adds_walk P M A0 c0 l0 A1 c1 l1 A2 c2 l2 W hC0 hc0 hC1 hc1 hC2 hc2 km o hm ks s hs hP).mono fun e W' ⟨he, bel⟩ => ?_
 subst he; refine ⟨_, rfl, _, _, _, [], _, [], hW', trodAll_mk1 (shut_bool Try.underlying4 _), reads_on laid bel (by rintro t (_ | ⟨_, _ | ⟨_, _ | ⟨_, h_⟩⟩⟩); exact rr33; exact rr35; exact rr35; cases h_) hAk, rfl, bel.frame _, fun h => by cases h⟩
theorem and_t {a b : Bool} (ha : a = true) (hb : b = true) : (a && b) = true := by rw [ha, hb]; rfl
theorem c00 : (Rows.bivariateAddsRow.wf (OpenSpec.ofChange Rows.bivariateAddsSpec)) = true := by kernel_rfl
theorem c01 : (laidOutB Try.pinned.checked.prog) = true := by kernel_rfl
theorem c02 : (mapsRowed Try.pinned.checked.prog) = true := by kernel_rfl
theorem c03 : (Try.f5.params.all (Try.pinned.checked.prog.readableRec ·)) = true := by kernel_rfl
theorem c04 : (namedTie Try.pinned.checked.prog Rows.bivariateAddsRow.named (Rows.bivariateAddsSpec).vars) = true := by kernel_rfl
theorem c05 : (Rows.bivariateAddsRow.stops == []) = true := by kernel_rfl
theorem c06 : (Try.pinned.checked.prog.stops == []) = true := by kernel_rfl
theorem c07 : (Rows.bivariateAddsRow.knobs == []) = true := by kernel_rfl
theorem c08 : (Try.pinned.checked.prog.stopKnobs == []) = true := by kernel_rfl
theorem c09 : (Rows.bivariateAddsRow.inPlace == Try.pinned.checked.prog.inPlace 5) = true := by kernel_rfl
theorem c10 : (Rows.bivariateAddsRow.unfollowed == Try.pinned.checked.prog.unfollowed 5) = true := by kernel_rfl
theorem c11 : (Rows.bivariateAddsRow.recurses == Try.pinned.checked.prog.recurses 5) = true := by kernel_rfl
theorem c12 : (Rows.bivariateAddsRow.named == Try.pinned.checked.prog.varsNamed 5) = true := by kernel_rfl
theorem c13 : (Rows.bivariateAddsRow.maps == (Try.f5.params.toList ++ (Rows.bivariateAddsSpec).plain.varTypes Try.pinned.checked.prog).any (Try.pinned.checked.prog.mapsRec ·)) = true := by kernel_rfl
theorem c14 : (Rows.bivariateAddsRow.ifaces == (Try.f5.params.toList ++ (Rows.bivariateAddsSpec).plain.varTypes Try.pinned.checked.prog).any (Try.pinned.checked.prog.ifacesRec ·)) = true := by kernel_rfl
theorem c15 : (Rows.bivariateAddsRow.mapsOut == Try.pinned.checked.prog.mapsAmong Try.f5.resultTypes.toList) = true := by kernel_rfl
theorem c16 : (Rows.bivariateAddsRow.loops == (Try.f5.params.toList ++ (Rows.bivariateAddsSpec).plain.varTypes Try.pinned.checked.prog).any (Try.pinned.checked.prog.loopsFrom ·)) = true := by kernel_rfl
theorem c17 : (Rows.bivariateAddsRow.wideKeys == (Try.f5.params.toList ++ (Rows.bivariateAddsSpec).plain.varTypes Try.pinned.checked.prog ++ Try.f5.resultTypes.toList).any (Try.pinned.checked.prog.wideKeysFrom ·)) = true := by kernel_rfl
theorem c18 : ((Rows.bivariateAddsSpec).vars.all (Try.pinned.checked.prog.varReadable ·)) = true := by kernel_rfl
theorem c19 : (Try.f5.resultTypes.all (fun t => Try.pinned.checked.prog.readableRec t && decide (t < Try.pinned.checked.prog.types.size))) = true := by kernel_rfl
theorem c20 : (Rows.bivariateAddsRow.ifacesOut == Try.f5.resultTypes.toList.any (Try.pinned.checked.prog.ifacesRec ·)) = true := by kernel_rfl
theorem c21 : (Rows.bivariateAddsRow.loopsOut == Try.f5.resultTypes.toList.any (Try.pinned.checked.prog.loopsFrom ·)) = true := by kernel_rfl
theorem c22 : (Rows.bivariateAddsRow.plainKeys == Try.pinned.checked.prog.plainKeys) = true := by kernel_rfl
theorem c23 : (Rows.bivariateAddsRow.shortTexts.isNone) = true := by kernel_rfl
theorem c24 : (Try.pinned.checked.prog.stopsHeard) = true := by kernel_rfl
theorem c25 : (Try.pinned.checked.prog.mayEnter) = true := Head.enter_
theorem c26 : (Rows.bivariateAddsRow.lifted == Try.pinned.checked.prog.liftsFinal) = true := by rw [Head.final_]; rfl
theorem c27 : (Try.pinned.checked.prog.make == some Rows.bivariateAddsRow.make) = true := by rw [Head.make_]; rfl
theorem c28 : (Rows.bivariateAddsRow.kinds == (if Rows.bivariateAddsRow.domain.isEmpty then [] else Try.f5.params.toList.map fun t => match Try.pinned.checked.prog.underlying t with | some (.int k) => some k | _ => none)) = true := by kernel_rfl
theorem c29 : (Rows.bivariateAddsRow.pinned == Rows.bivariateAddsRow.pinnedBy) = true := by kernel_rfl
theorem c30 : (Rows.bivariateAddsRow.veiled == (Try.f5.params.toList ++ (Rows.bivariateAddsSpec).plain.varTypes Try.pinned.checked.prog ++ Try.f5.resultTypes.toList).any (Try.pinned.checked.prog.veiledRec ·)) = true := by kernel_rfl
theorem c31 : (Rows.bivariateAddsRow.veiledFits Try.pinned.checked.prog Try.f5.params.toList (Try.f5.params.toList ++ (Rows.bivariateAddsSpec).plain.varTypes Try.pinned.checked.prog ++ Try.f5.resultTypes.toList)) = true := by kernel_rfl
theorem named_ : Try.pinned.checked.prog.funcNamed Rows.bivariateAddsRow.func = some 5 := by kernel_rfl
set_option maxRecDepth 100000 in
theorem closed_ : joinedFacts Try.pinned.checked.prog 5 Try.f5 (Rows.bivariateAddsSpec) Rows.bivariateAddsRow = true := by
 unfold joinedFacts; exact (and_t (and_t (and_t (and_t (and_t (and_t (and_t (and_t (and_t (and_t (and_t (and_t (and_t (and_t (and_t (and_t (and_t (and_t (and_t (and_t (and_t (and_t (and_t (and_t (and_t (and_t (and_t (and_t (and_t (and_t (and_t c00 c01) c02) c03) c04) c05) c06) c07) c08) c09) c10) c11) c12) c13) c14) c15) c16) c17) c18) c19) c20) c21) c22) c23) c24) c25) c26) c27) c28) c29) c30) c31)
theorem inst_ : Try.f5.isInstance Try.pinned.checked.prog Rows.bivariateAddsRow.origin Rows.bivariateAddsRow.targs := of_decide_eq_true (by kernel_rfl)
theorem wrap_ : Try.f5.isWrapper Try.pinned.checked.prog Rows.bivariateAddsRow.wrapper Rows.bivariateAddsRow.mainSum := by unfold Func.isWrapper; first | (rw [if_pos (by decide +kernel)]; kernel_rfl) | (rw [if_neg (by decide +kernel)]; exact ⟨rfl, rfl⟩)
theorem over : Rows.bivariateAddsRow.holds Try.pinned (OpenSpec.ofChange Rows.bivariateAddsSpec) :=
 OpenClaim.holds_of_wide 5 Try.f5 rfl rfl rfl rfl rfl rfl rfl ⟨rfl, rfl, rfl, rfl, rfl⟩ rfl rfl rfl rfl rfl named_ Try.func5 closed_ inst_ wrap_
  (fun os started H enc _ => lifted os started H enc)
theorem proved : Rows.BivariateAddsSaid := over
end Go.Proofs.Ytgjphmcofmkmfaa.bivariateAdds
namespace Go.Proofs.Ytgjphmcofmkmfaa
theorem bivariateAdds_holds : Rows.BivariateAddsSaid := bivariateAdds.proved
end Go.Proofs.Ytgjphmcofmkmfaa
