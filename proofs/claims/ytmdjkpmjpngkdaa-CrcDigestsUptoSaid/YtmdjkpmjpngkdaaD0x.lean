/- Linear maps by their matrices: plain. -/
import Derived.Test.YtmdjkpmjpngkdaaC9x
namespace Go.Proofs.Ytmdjkpmjpngkdaa
set_option linter.unusedVariables false
set_option linter.unusedSimpArgs false
open Go.RowKit K

theorem appTo_xor (M : Mx) (x y : BitVec 32) (k : Nat) : appTo M (x ^^^ y) k = appTo M x k ^^^ appTo M y k := by
  induction k with
  | zero => simp [appTo]
  | succ k ih =>
    rw [appTo, appTo, appTo, BitVec.getLsbD_xor, ih]
    generalize x.getLsbD k = a
    generalize y.getLsbD k = b
    generalize appTo M x k = p
    generalize appTo M y k = q
    cases a <;> cases b
    · rfl
    · show p ^^^ q ^^^ M k = p ^^^ (q ^^^ M k)
      rw [BitVec.xor_assoc]
    · show p ^^^ q ^^^ M k = (p ^^^ M k) ^^^ q
      rw [BitVec.xor_assoc, BitVec.xor_assoc, BitVec.xor_comm q]
    · show p ^^^ q = (p ^^^ M k) ^^^ (q ^^^ M k)
      rw [xor4, BitVec.xor_self, BitVec.xor_zero]
theorem app_xor (M : Mx) (x y : BitVec 32) : app M (x ^^^ y) = app M x ^^^ app M y := appTo_xor M x y 32
theorem f_appTo (f : BitVec 32 → BitVec 32) (h : ∀ x y, f (x ^^^ y) = f x ^^^ f y) (M : Mx) (hM : ∀ i < 32, M i = f (1#32 <<< i)) (x : BitVec 32) (k : Nat) (hk : k ≤ 32) : appTo M x k = f (appTo idM x k) := by
  have h0 : f 0#32 = 0#32 := by
    have := h 0#32 0#32
    rw [BitVec.xor_self, BitVec.xor_self] at this
    exact this
  induction k with
  | zero => exact h0.symm
  | succ k ih =>
    rw [appTo, appTo, ih (by omega)]
    by_cases hb : x.getLsbD k = true
    · rw [if_pos hb, if_pos hb, h, hM k (by omega)]
      rfl
    · rw [if_neg hb, if_neg hb]
theorem id_bit (x : BitVec 32) (k : Nat) (hk : k ≤ 32) (i : Nat) : (appTo idM x k).getLsbD i = (decide (i < k) && x.getLsbD i) := by
  induction k with
  | zero => simp [appTo]
  | succ k ih =>
    have hone : (idM k).getLsbD i = decide (i = k) := by
      rw [idM, BitVec.getLsbD_shiftLeft]
      by_cases hi : i < 32
      · by_cases hik : i < k
        · simp [hik]; omega
        · by_cases he : i = k
          · subst he; simp [hi]
          · have h1 : (1#32).getLsbD (i - k) = false := by simp [BitVec.getLsbD_ofNat, show ¬ (i - k = 0) by omega, show i - k < 32 by omega]
            rw [h1]; simp [he]
      · have : ¬ i = k := by omega
        simp [hi, this]
    rw [appTo]
    by_cases hb : x.getLsbD k = true
    · rw [if_pos hb, BitVec.getLsbD_xor, ih (by omega), hone]
      by_cases he : i = k
      · subst he; simp [hb]
      · have : (i < k + 1) = (i < k) := by apply propext; omega
        simp [he, this]
    · rw [if_neg hb, ih (by omega)]
      by_cases he : i = k
      · subst he
        simp only [Bool.not_eq_true] at hb
        simp [hb]
      · have : (i < k + 1) = (i < k) := by apply propext; omega
        simp [this]
theorem app_id (x : BitVec 32) : app idM x = x := by
  apply BitVec.eq_of_getLsbD_eq
  intro i hi
  rw [app, id_bit x 32 (Nat.le_refl _)]
  simp [hi]
theorem app_of (f : BitVec 32 → BitVec 32) (h : ∀ x y, f (x ^^^ y) = f x ^^^ f y) (M : Mx) (hM : ∀ i < 32, M i = f (1#32 <<< i)) (x : BitVec 32) : app M x = f x := by
  rw [app, f_appTo f h M hM x 32 (Nat.le_refl _)]
  congr 1
  exact app_id x
theorem app_one (x : BitVec 32) : app oneM x = T x := app_of T T_xor oneM (fun _ _ => rfl) x
theorem app_shl (M : Mx) (i : Nat) (hi : i < 32) : app M (1#32 <<< i) = M i := by
  have hall : ∀ k ≤ 32, appTo M (1#32 <<< i) k = if i < k then M i else 0#32 := by
    intro k
    induction k with
    | zero => intro _; rfl
    | succ k ih =>
      intro hk
      have hb := congrArg (fun x : BitVec 32 => x.getLsbD k) (show idM i = 1#32 <<< i from rfl)
      have hone : (1#32 <<< i).getLsbD k = decide (k = i) := by
        rw [BitVec.getLsbD_shiftLeft]
        by_cases hik : k < i
        · simp [hik]; omega
        · by_cases he : k = i
          · subst he; simp; omega
          · have h1 : (1#32).getLsbD (k - i) = false := by simp [BitVec.getLsbD_ofNat, show ¬ (k - i = 0) by omega, show k - i < 32 by omega]
            rw [h1]; simp [he]
      rw [appTo, hone, ih (by omega)]
      by_cases he : k = i
      · subst he; simp
      · have : (i < k + 1) = (i < k) := by apply propext; omega
        simp [he, this]
  rw [app, hall 32 (Nat.le_refl _), if_pos hi]
theorem app_comp (M N : Mx) (x : BitVec 32) : app (comp M N) x = app N (app M x) := by
  refine app_of (fun x => app N (app M x)) (fun x y => by rw [app_xor, app_xor]) _ (fun i hi => ?_) x
  show app N (M i) = app N (app M (1#32 <<< i))
  rw [app_shl M i hi]
/-- n bytes 0. -/
def zer : Nat → BitVec 32 → BitVec 32
  | 0, x => x
  | n + 1, x => T (zer n x)
theorem zer_add (m n : Nat) (x : BitVec 32) : zer (m + n) x = zer m (zer n x) := by
  induction m with
  | zero => rw [Nat.zero_add]; rfl
  | succ m ih => rw [show m + 1 + n = (m + n) + 1 by omega, zer, zer, ih]
theorem zloop_app (f : Nat) (out one : Mx) (n k : Nat) (hn : n < 2 ^ f) (h1 : ∀ x, app one x = zer k x) (x : BitVec 32) : app (zloop f out one n) x = zer (k * n) (app out x) := by
  induction f generalizing out one n k with
  | zero =>
    obtain rfl : n = 0 := by simp at hn; exact hn
    rfl
  | succ f ih =>
    by_cases h0 : n = 0
    · subst h0
      rw [zloop_zero]; rfl
    · rw [zloop_pos f out one n h0, ih _ _ (n / 2) (2 * k) (by rw [Nat.pow_succ] at hn; omega) (fun x => by rw [app_comp, h1, h1, ← zer_add]; congr 1; omega)]
      have hdm := Nat.div_add_mod n 2
      rcases Nat.mod_two_eq_zero_or_one n with e | e
      · rw [if_neg (by omega)]
        congr 1
        rw [Nat.mul_comm 2 k, Nat.mul_assoc, show 2 * (n / 2) = n by omega]
      · rw [if_pos e, app_comp, h1, ← zer_add]
        congr 1
        rw [Nat.mul_comm 2 k, Nat.mul_assoc, ← Nat.mul_succ, show (2 * (n / 2)).succ = n by omega]
theorem zeros_app (n : Nat) (hn : n < 2 ^ 64) (x : BitVec 32) : app (zerosM n) x = zer n x := by
  rw [zerosM, zloop_app 64 idM oneM n 1 hn (fun x => app_one x), app_id, Nat.one_mul]
/-- the program's halving of n. -/
def sloop : Nat → Mx → BitVec 32 → Nat → BitVec 32
  | 0, _, r, _ => r
  | f + 1, m, r, n => if n = 0 then r else sloop f (comp m m) (if n % 2 = 1 then app m r else r) (n / 2)
theorem sloop_zero (f : Nat) (m : Mx) (r : BitVec 32) : sloop f m r 0 = r := by cases f <;> rfl
theorem sloop_pos (f : Nat) (m : Mx) (r : BitVec 32) (n : Nat) (h : n ≠ 0) : sloop (f + 1) m r n = sloop f (comp m m) (if n % 2 = 1 then app m r else r) (n / 2) := by
  rw [sloop, if_neg h]
theorem sloop_app (f : Nat) (m : Mx) (r : BitVec 32) (n k : Nat) (hn : n < 2 ^ f) (h1 : ∀ x, app m x = zer k x) : sloop f m r n = zer (k * n) r := by
  induction f generalizing m r n k with
  | zero =>
    obtain rfl : n = 0 := by simp at hn; exact hn
    rfl
  | succ f ih =>
    by_cases h0 : n = 0
    · subst h0
      rw [sloop_zero]; rfl
    · rw [sloop_pos f m r n h0, ih _ _ (n / 2) (2 * k) (by rw [Nat.pow_succ] at hn; omega) (fun x => by rw [app_comp, h1, h1, ← zer_add]; congr 1; omega)]
      have hdm := Nat.div_add_mod n 2
      rcases Nat.mod_two_eq_zero_or_one n with e | e
      · rw [if_neg (by omega)]
        congr 1
        rw [Nat.mul_comm 2 k, Nat.mul_assoc, show 2 * (n / 2) = n by omega]
      · rw [if_pos e, h1, ← zer_add]
        congr 1
        rw [Nat.mul_comm 2 k, Nat.mul_assoc, ← Nat.mul_succ, show (2 * (n / 2)).succ = n by omega]
end Go.Proofs.Ytmdjkpmjpngkdaa
