/- The statement on texts in which bits are turned: Tells. -/
import Derived.Test.YtmdjkpmjpngkdaaE7x
import Derived.Test.YtmdjkpmjpngkdaaE5x
namespace Go.Proofs.Ytmdjkpmjpngkdaa
set_option linter.unusedVariables false
set_option linter.unusedSimpArgs false
open Go.RowKit K

/-- the byte of a mask that turns byte number i. -/
def mb (m : BitVec 32) (i : Nat) : UInt8 := UInt8.ofNat ((m >>> (8 * i)).toNat % 256)
/-- a list in which the first i bytes of a mask have turned those from k on. -/
def turnTo (l : List UInt8) (k : Nat) (m : BitVec 32) : Nat → List UInt8
  | 0 => l
  | i + 1 => turnL (turnTo l k m i) (k + i) (mb m i)
theorem turnTo_length (l : List UInt8) (k : Nat) (m : BitVec 32) (i : Nat) : (turnTo l k m i).length = l.length := by
  induction i with
  | zero => rfl
  | succ i ih => rw [turnTo, turnL_length, ih]
theorem zer_inj (n : Nat) (x y : BitVec 32) (h : zer n x = zer n y) : x = y := by
  induction n with
  | zero => exact h
  | succ n ih =>
    rw [zer, zer] at h
    exact ih (by rw [← U_T (zer n x), h, U_T])
theorem zer_xor (n : Nat) (x y : BitVec 32) : zer n (x ^^^ y) = zer n x ^^^ zer n y := by
  induction n with
  | zero => rfl
  | succ n ih => rw [zer, ih, T_xor]; rfl
theorem turn4 (p q : List UInt8) (a b c d : UInt8) (m : BitVec 32) : turnTo (p ++ a :: b :: c :: d :: q) p.length m 4 = p ++ (a ^^^ mb m 0) :: (b ^^^ mb m 1) :: (c ^^^ mb m 2) :: (d ^^^ mb m 3) :: q := by
  have step : ∀ (r : List UInt8) (x y : UInt8) (i : Nat) (s : List UInt8), r.length = p.length + i → turnL (r ++ x :: s) (p.length + i) y = r ++ (x ^^^ y) :: s := by
    intro r x y i s hr
    unfold turnL
    rw [← hr]
    simp
  show turnL (turnL (turnL (turnL (p ++ a :: b :: c :: d :: q) (p.length + 0) _) (p.length + 1) _) (p.length + 2) _) (p.length + 3) _ = _
  rw [step p a _ 0 _ rfl]
  rw [show p ++ (a ^^^ mb m 0) :: b :: c :: d :: q = (p ++ [a ^^^ mb m 0]) ++ b :: c :: d :: q by simp, step _ b _ 1 _ (by simp)]
  rw [show (p ++ [a ^^^ mb m 0]) ++ (b ^^^ mb m 1) :: c :: d :: q = (p ++ [a ^^^ mb m 0, b ^^^ mb m 1]) ++ c :: d :: q by simp, step _ c _ 2 _ (by simp)]
  rw [show (p ++ [a ^^^ mb m 0, b ^^^ mb m 1]) ++ (c ^^^ mb m 2) :: d :: q = (p ++ [a ^^^ mb m 0, b ^^^ mb m 1, c ^^^ mb m 2]) ++ d :: q by simp, step _ d _ 3 _ (by simp)]
  simp
theorem ofNat_xor8 (a b : UInt8) : BitVec.ofNat 32 (a ^^^ b).toNat = BitVec.ofNat 32 a.toNat ^^^ BitVec.ofNat 32 b.toNat := by
  apply BitVec.eq_of_toNat_eq
  have ha := a.toNat_lt
  have hb := b.toNat_lt
  have hx := (a ^^^ b).toNat_lt
  rw [BitVec.toNat_xor, BitVec.toNat_ofNat, BitVec.toNat_ofNat, BitVec.toNat_ofNat, Nat.mod_eq_of_lt (by omega), Nat.mod_eq_of_lt (a := a.toNat) (by omega), Nat.mod_eq_of_lt (a := b.toNat) (by omega), UInt8.toNat_xor]
theorem take_two (x y : BitVec 32) (a b : UInt8) : take (x ^^^ y) (a ^^^ b) = take x a ^^^ take y b := by
  unfold take
  rw [ofNat_xor8, xor4, T_xor]
theorem run_two (x : BitVec 32) (a b c d : UInt8) (m : BitVec 32) : run x [a ^^^ mb m 0, b ^^^ mb m 1, c ^^^ mb m 2, d ^^^ mb m 3] = zer 4 m ^^^ run x [a, b, c, d] := by
  have h : run 0#32 [mb m 0, mb m 1, mb m 2, mb m 3] = zer 4 m := by
    have := take4 0#32 m
    rw [BitVec.zero_xor] at this
    exact this
  rw [← h, BitVec.xor_comm]
  have hx : x = x ^^^ 0#32 := by rw [BitVec.xor_zero]
  show take (take (take (take x _) _) _) _ = take (take (take (take x a) b) c) d ^^^ take (take (take (take 0#32 _) _) _) _
  rw [← take_two, ← take_two, ← take_two, ← take_two, BitVec.xor_zero]
theorem turn_tells (x : BitVec 32) (l : List UInt8) (k : Nat) (m : BitVec 32) (hk : k + 4 ≤ l.length) (hm : m ≠ 0#32) : run x (turnTo l k m 4) ≠ run x l := by
  obtain ⟨p, r, rfl, hp⟩ : ∃ p r, l = p ++ r ∧ p.length = k := ⟨l.take k, l.drop k, (List.take_append_drop k l).symm, by simp; omega⟩
  subst hp
  rw [List.length_append] at hk
  match r, hk with
  | a :: b :: c :: d :: q, _ =>
    rw [turn4]
    intro h
    have e1 : run x (p ++ (a ^^^ mb m 0) :: (b ^^^ mb m 1) :: (c ^^^ mb m 2) :: (d ^^^ mb m 3) :: q) = zer q.length (zer 4 m) ^^^ run (run (run x p) [a, b, c, d]) q := by
      rw [run_append, ← run_shift, ← run_two]
      rfl
    have e2 : run x (p ++ a :: b :: c :: d :: q) = run (run (run x p) [a, b, c, d]) q := by
      rw [run_append]
      rfl
    rw [e1, e2] at h
    have h0 : zer q.length (zer 4 m) = 0#32 := by
      have := congrArg (fun z => z ^^^ run (run (run x p) [a, b, c, d]) q) h
      simp only [BitVec.xor_assoc, BitVec.xor_self, BitVec.xor_zero] at this
      exact this
    rw [← zer_add] at h0
    exact hm (zer_inj _ _ _ (h0.trans (zer_zero _).symm))
  | [], h => exact absurd h (by simp)
  | [_], h => exact absurd h (by simp)
  | [_, _], h => exact absurd h (by simp)
  | [_, _, _], h => exact absurd h (by simp)
end Go.Proofs.Ytmdjkpmjpngkdaa
