/- Registers of 32 bits as the walk meets them: 'u x' is the value of a register, and each operation of the program on it is one of BitVec. No program in it. -/
import Derived.Test.YtmdjkpmjpngkdaaLater
namespace Go.Proofs.Ytmdjkpmjpngkdaa.K
set_option linter.unusedVariables false
set_option linter.unusedSimpArgs false
open Go.RowKit

/-- a register's number. -/
def u (x : BitVec 32) : Int := (x.toNat : Int)
theorem u_inj {x y : BitVec 32} (h : u x = u y) : x = y := by
  unfold u at h
  exact BitVec.eq_of_toNat_eq (by omega)
theorem u_eq (x y : BitVec 32) : (u x = u y) = (x = y) := propext ⟨u_inj, fun h => h ▸ rfl⟩
theorem u_lt (x : BitVec 32) : u x < 4294967296 := by have := x.isLt; unfold u; omega
theorem u_nonneg (x : BitVec 32) : 0 ≤ u x := by unfold u; omega
theorem u_of (n : Int) (h0 : 0 ≤ n) (h1 : n < 4294967296) : n = u (BitVec.ofInt 32 n) := by
  unfold u
  rw [BitVec.toNat_ofInt]
  omega
theorem ofInt_u (x : BitVec 32) : BitVec.ofInt 32 (u x) = x := by
  unfold u
  simp
theorem wrap_u (n : Nat) (h : n < 4294967296) : IntKind.u32.wrap (n : Int) = n := by rw [IntKind.wrap_u32']; omega
theorem bits_xor_u (x y : BitVec 32) : bits .xor .u32 (u x) (u y) = u (x ^^^ y) := by
  show IntKind.u32.wrap ((BitVec.ofInt 32 (u x) ^^^ BitVec.ofInt 32 (u y)).toNat : Int) = _
  rw [ofInt_u, ofInt_u, wrap_u _ (BitVec.isLt _)]; rfl
theorem bits_or_u (x y : BitVec 32) : bits .or .u32 (u x) (u y) = u (x ||| y) := by
  show IntKind.u32.wrap ((BitVec.ofInt 32 (u x) ||| BitVec.ofInt 32 (u y)).toNat : Int) = _
  rw [ofInt_u, ofInt_u, wrap_u _ (BitVec.isLt _)]; rfl
theorem bits_and_u (x y : BitVec 32) : bits .and .u32 (u x) (u y) = u (x &&& y) := by
  show IntKind.u32.wrap ((BitVec.ofInt 32 (u x) &&& BitVec.ofInt 32 (u y)).toNat : Int) = _
  rw [ofInt_u, ofInt_u, wrap_u _ (BitVec.isLt _)]; rfl
abbrev poly : BitVec 32 := 2197175160#32
@[go_sem] theorem u_poly (x : BitVec 32) : bits .xor .u32 (u x) 2197175160 = u (x ^^^ poly) := bits_xor_u x poly
@[go_sem] theorem u_ones (x : BitVec 32) : bits .xor .u32 (u x) 4294967295 = u (~~~ x) := by
  rw [show (4294967295 : Int) = u (-1#32) from rfl, bits_xor_u]
  congr 1
  have : (-1#32 : BitVec 32) = BitVec.allOnes 32 := by decide
  rw [this, BitVec.xor_allOnes]
theorem ones_xor (x : BitVec 32) : -1#32 ^^^ x = ~~~ x := by
  have : (-1#32 : BitVec 32) = BitVec.allOnes 32 := by decide
  rw [this, BitVec.xor_comm, BitVec.xor_allOnes]
@[go_sem] theorem u_not (x : BitVec 32) : bits .xor .u32 IntKind.u32.max (u x) = u (~~~ x) := by
  rw [show IntKind.u32.max = u (-1#32) from rfl, bits_xor_u, ones_xor]
@[go_sem] theorem u_xor (x y : BitVec 32) : bits .xor .u32 (u x) (u y) = u (x ^^^ y) := bits_xor_u x y
@[go_sem] theorem u_or (x y : BitVec 32) : bits .or .u32 (u x) (u y) = u (x ||| y) := bits_or_u x y
@[go_sem] theorem u_or1 (x : BitVec 32) : bits .or .u32 (u x) 1 = u (x ||| 1#32) := bits_or_u x 1#32
theorem u_and1 (x : BitVec 32) : bits .and .u32 (u x) 1 = if x.getLsbD 0 then 1 else 0 := by
  rw [show (1 : Int) = u 1#32 from rfl, bits_and_u]
  have h : x.toNat &&& 1 = x.toNat % 2 := Nat.and_two_pow_sub_one_eq_mod x.toNat 1
  have hb : x.getLsbD 0 = decide (x.toNat % 2 = 1) := by simp [BitVec.getLsbD, Nat.testBit]; rcases Nat.mod_two_eq_zero_or_one x.toNat with e | e <;> simp [e]
  unfold u
  rw [BitVec.toNat_and, hb]
  simp only [BitVec.toNat_ofNat]
  rw [show 1 % 2 ^ 32 = 1 from rfl, h]
  rcases Nat.mod_two_eq_zero_or_one x.toNat with e | e <;> simp [e]
theorem u_shr (x : BitVec 32) (k : Nat) : u x / (2 : Int) ^ k = u (x >>> k) := by
  unfold u
  rw [BitVec.toNat_ushiftRight, Nat.shiftRight_eq_div_pow]
  norm_cast
@[go_sem] theorem u_div1 (x : BitVec 32) : u x / (2 : Int) = u (x >>> 1) := u_shr x 1
@[go_sem] theorem u_div8 (x : BitVec 32) : u x / (256 : Int) = u (x >>> 8) := u_shr x 8
@[go_sem] theorem u_div16 (x : BitVec 32) : u x / (65536 : Int) = u (x >>> 16) := u_shr x 16
@[go_sem] theorem u_div24 (x : BitVec 32) : u x / (16777216 : Int) = u (x >>> 24) := u_shr x 24
@[go_sem] theorem u_div31 (x : BitVec 32) : u x / (2147483648 : Int) = u (x >>> 31) := u_shr x 31
theorem u_shl (x : BitVec 32) (k : Nat) : IntKind.u32.wrap (u x * (2 : Int) ^ k) = u (x <<< k) := by
  unfold u
  rw [BitVec.toNat_shiftLeft, Nat.shiftLeft_eq, IntKind.wrap_u32', Int.natCast_emod, Int.natCast_mul, Int.natCast_pow]
  rfl
@[go_sem] theorem u_mul1 (x : BitVec 32) : IntKind.u32.wrap (u x * (2 : Int)) = u (x <<< 1) := u_shl x 1
@[go_sem] theorem u_mul8 (x : BitVec 32) : IntKind.u32.wrap (u x * (256 : Int)) = u (x <<< 8) := u_shl x 8
end Go.Proofs.Ytmdjkpmjpngkdaa.K
