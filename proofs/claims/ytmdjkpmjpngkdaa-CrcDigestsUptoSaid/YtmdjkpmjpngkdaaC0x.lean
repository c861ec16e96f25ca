/- The register's arithmetic, plain: a bit's step is linear, eight of them shift what has no low bits, so a table of 256 values does a byte's. -/
import Derived.Test.YtmdjkpmjpngkdaaC2x
namespace Go.Proofs.Ytmdjkpmjpngkdaa
set_option linter.unusedVariables false
set_option linter.unusedSimpArgs false
open Go.RowKit K

def take (x : BitVec 32) (b : UInt8) : BitVec 32 := T (x ^^^ BitVec.ofNat 32 b.toNat)
def run (x : BitVec 32) (bs : List UInt8) : BitVec 32 := bs.foldl take x
def more (x : BitVec 32) (s : ByteArray) : BitVec 32 := ~~~ (run (~~~ x) s.data.toList)
theorem run_take (x : BitVec 32) (l : List UInt8) (k : Nat) (hk : k < l.length) : run x (l.take (k + 1)) = take (run x (l.take k)) l[k] := by
  rw [List.take_succ_eq_append_getElem hk, run, List.foldl_append]
  rfl
theorem xor4 (a b c d : BitVec 32) : (a ^^^ b) ^^^ (c ^^^ d) = (a ^^^ c) ^^^ (b ^^^ d) := by
  rw [BitVec.xor_assoc, ← BitVec.xor_assoc b c d, BitVec.xor_comm b c, BitVec.xor_assoc c b d, ← BitVec.xor_assoc a c]
theorem bit_xor (x y : BitVec 32) : bit (x ^^^ y) = bit x ^^^ bit y := by
  unfold bit
  rw [BitVec.getLsbD_xor, BitVec.ushiftRight_xor_distrib]
  generalize x.getLsbD 0 = a
  generalize y.getLsbD 0 = b
  generalize x >>> 1 = x
  generalize y >>> 1 = y
  cases a <;> cases b
  · rfl
  · show x ^^^ y ^^^ poly = x ^^^ (y ^^^ poly)
    rw [BitVec.xor_assoc]
  · show x ^^^ y ^^^ poly = (x ^^^ poly) ^^^ y
    rw [BitVec.xor_assoc, BitVec.xor_assoc, BitVec.xor_comm y]
  · show x ^^^ y = (x ^^^ poly) ^^^ (y ^^^ poly)
    rw [xor4, BitVec.xor_self, BitVec.xor_zero]
theorem bits8_xor (n : Nat) (x y : BitVec 32) : bits8 n (x ^^^ y) = bits8 n x ^^^ bits8 n y := by
  induction n with
  | zero => rfl
  | succ n ih => rw [bits8, ih, bit_xor]; rfl
theorem T_xor (x y : BitVec 32) : T (x ^^^ y) = T x ^^^ T y := bits8_xor 8 x y
theorem bits8_low (n : Nat) (x : BitVec 32) (h : ∀ i < n, x.getLsbD i = false) : bits8 n x = x >>> n := by
  induction n with
  | zero => simp [bits8]
  | succ n ih =>
    rw [bits8, ih (fun i hi => h i (by omega)), bit]
    have : (x >>> n).getLsbD 0 = false := by rw [BitVec.getLsbD_ushiftRight]; exact h _ (by omega)
    rw [this, if_neg (by simp), BitVec.shiftRight_add]
theorem T_low (x : BitVec 32) (h : ∀ i < 8, x.getLsbD i = false) : T x = x >>> 8 := bits8_low 8 x h
theorem split8 (x : BitVec 32) : BitVec.ofNat 32 (x.toNat % 256) ^^^ (x >>> 8) <<< 8 = x := by
  apply BitVec.eq_of_getLsbD_eq
  intro i hi
  have h : (BitVec.ofNat 32 (x.toNat % 256)).getLsbD i = (decide (i < 8) && x.getLsbD i) := by
    rw [BitVec.getLsbD_ofNat, show (256 : Nat) = 2 ^ 8 from rfl, Nat.testBit_mod_two_pow]
    simp [hi, BitVec.getLsbD]
  rw [BitVec.getLsbD_xor, h, BitVec.getLsbD_shiftLeft, BitVec.getLsbD_ushiftRight]
  by_cases h8 : i < 8
  · simp [h8]
  · simp [h8, hi, show 8 + (i - 8) = i by omega]
theorem T_split (x : BitVec 32) : T (BitVec.ofNat 32 (x.toNat % 256)) ^^^ x >>> 8 = T x := by
  have h : T ((x >>> 8) <<< 8) = x >>> 8 := by
    rw [T_low _ (fun i hi => by rw [BitVec.getLsbD_shiftLeft]; simp [hi])]
    apply BitVec.eq_of_getLsbD_eq
    intro i hi
    rw [BitVec.getLsbD_ushiftRight, BitVec.getLsbD_shiftLeft, BitVec.getLsbD_ushiftRight]
    by_cases h2 : 8 + i < 32
    · simp [h2]
    · have : x.getLsbD (8 + i) = false := BitVec.getLsbD_of_ge x _ (by omega)
      simp [h2, this]
  rw [← h, ← T_xor, split8]
theorem byte_shr (b : UInt8) : BitVec.ofNat 32 b.toNat >>> 8 = 0#32 := by
  apply BitVec.eq_of_toNat_eq
  have := b.toNat_lt
  rw [BitVec.toNat_ushiftRight, BitVec.toNat_ofNat, Nat.mod_eq_of_lt (by omega), Nat.shiftRight_eq_div_pow]
  simp
  omega
theorem take_step (r : BitVec 32) (b : UInt8) : T (BitVec.ofNat 32 ((r ^^^ BitVec.ofNat 32 b.toNat).toNat % 256)) ^^^ r >>> 8 = take r b := by
  have := T_split (r ^^^ BitVec.ofNat 32 b.toNat)
  rw [BitVec.ushiftRight_xor_distrib, byte_shr, BitVec.xor_zero] at this
  exact this
/-- the index into the table. -/
theorem index_at (r : BitVec 32) (b : UInt8) : bits .xor .u8 (IntKind.u8.wrap (u r)) (b.toNat : Int) = (((r ^^^ BitVec.ofNat 32 b.toNat).toNat % 256 : Nat) : Int) := by
  have hb := b.toNat_lt
  rw [IntKind.wrap_u8', show u r % 256 = ((r.toNat % 256 : Nat) : Int) from by unfold u; omega, u8_xor_nat _ _ (by omega) hb]
  congr 1
  rw [BitVec.toNat_xor, BitVec.toNat_ofNat, Nat.mod_eq_of_lt (a := b.toNat) (by omega), show (256 : Nat) = 2 ^ 8 from rfl, Nat.xor_mod_two_pow, Nat.mod_eq_of_lt (a := b.toNat) (by omega)]
end Go.Proofs.Ytmdjkpmjpngkdaa
