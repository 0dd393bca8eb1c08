/- Bits of numbers; the program's bits.Len64 and tuple.size. No condition. -/
import Derived.Test.YtfpkajhmelbbbaaGreatDoorC0
import Derived.Test.YtfpkajhmelbbbaaGreatDoorC1
import Derived.Test.YtfpkajhmelbbbaaGreatDoorC2
import Derived.Test.YtfpkajhmelbbbaaGreatDoorC3
import Derived.Test.YtfpkajhmelbbbaaGreatDoorHa
set_option linter.unusedVariables false
set_option linter.unusedSimpArgs false
namespace Gls
open Go Go.Proofs

/-- How many bits a number has. -/
def bitLen (x : Nat) : Nat := if x = 0 then 0 else Nat.log2 x + 1

theorem bitLen_div {x k : Nat} (h : 2 ^ k ≤ x) : bitLen x = k + bitLen (x / 2 ^ k) := by
  have hx : x ≠ 0 := by have := Nat.two_pow_pos k; omega
  have hd : x / 2 ^ k ≠ 0 := by
    have := Nat.div_pos h (Nat.two_pow_pos k); omega
  unfold bitLen
  rw [if_neg hx, if_neg hd]
  have hl : k ≤ Nat.log2 x := (Nat.le_log2 hx).2 h
  have : Nat.log2 (x / 2 ^ k) = Nat.log2 x - k := by
    refine Nat.le_antisymm ?_ ?_
    · have h1 : x / 2 ^ k < 2 ^ (Nat.log2 x - k + 1) := by
        rw [Nat.div_lt_iff_lt_mul (Nat.two_pow_pos k), ← Nat.pow_add]
        have : Nat.log2 x - k + 1 + k = Nat.log2 x + 1 := by omega
        rw [this]; exact Nat.lt_log2_self
      have := (Nat.log2_lt hd).2 h1
      omega
    · refine (Nat.le_log2 hd).2 ?_
      rw [Nat.le_div_iff_mul_le (Nat.two_pow_pos k), ← Nat.pow_add]
      have : Nat.log2 x - k + k = Nat.log2 x := by omega
      rw [this]; exact Nat.log2_self_le hx
  rw [this]; omega

theorem bitLen_lt {x k : Nat} : bitLen x ≤ k ↔ x < 2 ^ k := by
  unfold bitLen
  by_cases h : x = 0
  · simp [h, Nat.two_pow_pos]
  · rw [if_neg h]
    exact Nat.log2_lt h

/-- Shifts and bytes of plain numbers, kept as they are. -/
def shr (x k : Nat) : Nat := x / 2 ^ k
def u8 (n : Nat) : UInt8 := UInt8.ofNat n
theorem shrI (x k : Nat) : ((x : Nat) : Int).fdiv (2 ^ k) = ((shr x k : Nat) : Int) := by
  rw [Int.fdiv_eq_ediv_of_nonneg _ (by exact Int.pow_nonneg (by omega))]
  simp [shr]
theorem u8wrap (n : Nat) : IntKind.u8.wrap (n : Int) = ((u8 n).toNat : Int) := by
  rw [IntKind.wrap_u8]; simp [u8]
/-- Bitwise operations on bytes, kept as they are. -/
def bxor (a b : UInt8) : UInt8 := a ^^^ b
def bor (a b : UInt8) : UInt8 := a ||| b
def band (a b : UInt8) : UInt8 := a &&& b
theorem ofInt8 (c : UInt8) : BitVec.ofInt 8 (c.toNat : Int) = c.toBitVec := by simp
theorem bv8 (v : BitVec 8) : IntKind.u8.wrap (v.toNat : Int) = (v.toNat : Int) := by
  have := v.isLt
  rw [IntKind.wrap_u8]; omega
@[simp high] theorem u8xor {a b : UInt8} {k : AV → Prop} : xBin .xor (.int .u8 a.toNat) (.int .u8 b.toNat) k = k (.int .u8 (bxor a b).toNat) := by
  rw [aBin_xor]
  congr 2
  show IntKind.u8.wrap ((BitVec.ofInt 8 (a.toNat : Int) ^^^ BitVec.ofInt 8 (b.toNat : Int)).toNat : Int) = _
  rw [ofInt8, ofInt8, bv8]
  rfl
@[simp high] theorem u8or {a b : UInt8} {k : AV → Prop} : xBin .or (.int .u8 a.toNat) (.int .u8 b.toNat) k = k (.int .u8 (bor a b).toNat) := by
  rw [aBin_or]
  congr 2
  show IntKind.u8.wrap ((BitVec.ofInt 8 (a.toNat : Int) ||| BitVec.ofInt 8 (b.toNat : Int)).toNat : Int) = _
  rw [ofInt8, ofInt8, bv8]
  rfl
@[simp high] theorem u8and {a b : UInt8} {k : AV → Prop} : xBin .and (.int .u8 a.toNat) (.int .u8 b.toNat) k = k (.int .u8 (band a b).toNat) := by
  rw [aBin_and]
  congr 2
  show IntKind.u8.wrap ((BitVec.ofInt 8 (a.toNat : Int) &&& BitVec.ofInt 8 (b.toNat : Int)).toNat : Int) = _
  rw [ofInt8, ofInt8, bv8]
  rfl

def lenTab : List UInt8 := (List.range 256).map fun i => UInt8.ofNat (bitLen i)

theorem lenTab_get {x : Nat} (h : x < 256) : lenTab[x]? = some (UInt8.ofNat (bitLen x)) := by simp [lenTab, h]
theorem bitLen8 {x : Nat} (h : x < 256) : bitLen x ≤ 8 := bitLen_lt.2 (by simpa using h)

theorem Len64_ok (h : AH) (x : Nat) (hx : x < 18446744073709551616) : PCalls Tryz.prog 122 [.int .u64 x] h (.int .i64 (bitLen x)) := by
  refine PCalls_fn mixed F122 (by simp) fun _ => ?_
  unfold c122
  have tab : s122_0 = lenTab := by decide +kernel
  rw [tab]
  have q1 : 4294967296 ≤ (x : Int) → bitLen x = 32 + bitLen ((x : Int) / 4294967296).toNat := fun h => by
    have e : ((x : Int) / 4294967296).toNat = x / 4294967296 := by omega
    rw [e]; exact bitLen_div (k := 32) (by omega)
  have q2 : ∀ y : Int, 65536 ≤ y → bitLen y.toNat = 16 + bitLen (y / 65536).toNat := fun y h => by
    have e : (y / 65536).toNat = y.toNat / 65536 := by omega
    rw [e]; exact bitLen_div (k := 16) (by omega)
  have q3 : ∀ y : Int, 256 ≤ y → bitLen y.toNat = 8 + bitLen (y / 256).toNat := fun y h => by
    have e : (y / 256).toNat = y.toNat / 256 := by omega
    rw [e]; exact bitLen_div (k := 8) (by omega)
  have q4 : ∀ n : Nat, n < 256 → (UInt8.ofNat (bitLen n)).toNat = bitLen n := fun n h => by
    have := bitLen8 h
    simp; omega
  have q6 : bitLen x ≤ 64 := bitLen_lt.2 (by omega)
  have q5 : ∀ z : Int, z = (bitLen x : Int) → Reads h (newer h) (.int .i64 z) (.int .i64 (bitLen x)) ∧ Same h h := fun z hz => by rw [hz]; exact ⟨.refl _, .refl _⟩
  have q0 : ((x : Int)).toNat = x := by omega
  have fd := @Int.fdiv_eq_ediv_of_nonneg
  simp -dsimp -implicitDefEqProofs (disch := omega) [fd]
  refine branch_dec (fun h1 => ?_) fun h1 => ?_ <;> simp -dsimp -implicitDefEqProofs (disch := omega) [fd] <;> refine branch_dec (fun h2 => ?_) fun h2 => ?_ <;> simp -dsimp -implicitDefEqProofs (disch := omega) [fd] <;> refine branch_dec (fun h3 => ?_) fun h3 => ?_ <;> simp -dsimp -implicitDefEqProofs (disch := omega) [fd]
  all_goals first | refine need_of (by omega) (bindO_of (lenTab_get ?_) ?_) | refine bindO_of (lenTab_get ?_) ?_
  all_goals first | omega | skip
  all_goals (try have a1 := q1 h1)
  all_goals (try have a2 := q2 _ h2)
  all_goals (try have a3 := q3 _ h3)
  all_goals (try rw [q0] at a2)
  all_goals (try rw [q0] at a3)
  all_goals simp -dsimp -implicitDefEqProofs [q4]
  all_goals (refine q5 _ ?_; simp -dsimp -implicitDefEqProofs (disch := omega); omega)

def sizeN (x : Nat) : Nat := max 1 ((bitLen x + 7) / 8)
theorem sizeN_le {x : Nat} (h : x < 18446744073709551616) : 1 ≤ sizeN x ∧ sizeN x ≤ 8 := by
  have : bitLen x ≤ 64 := bitLen_lt.2 (by omega)
  unfold sizeN; omega
theorem u8_toNat {n : Nat} (h : n < 256) : (u8 n).toNat = n := by simp [u8]; omega
theorem size_ok (h : AH) (x : Nat) (hx : x < 18446744073709551616) : PCalls Tryz.prog 97 [.int .u64 x] h (.int .i64 (sizeN x)) := by
  refine PCalls_fn mixed F97 (by simp) fun _ => ?_
  unfold c97; simp -dsimp -implicitDefEqProofs (disch := omega)
  refine (Len64_ok _ _ hx).use fun n hn => ?_
  have hb : bitLen x ≤ 64 := bitLen_lt.2 (by omega)
  simp -dsimp -implicitDefEqProofs (disch := omega)
  have : max 1 (((bitLen x : Nat) + 7 : Int) / 8) = ((sizeN x : Nat) : Int) := by unfold sizeN; omega
  rw [this]
  exact ⟨.refl _, (Same.refl _).bump hn⟩
end Gls
