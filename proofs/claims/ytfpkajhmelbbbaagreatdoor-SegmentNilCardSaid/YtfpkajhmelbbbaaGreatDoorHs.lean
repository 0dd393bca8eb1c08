/- The program's checksum in the view: seal.Sum. No condition. -/
import Derived.Test.YtfpkajhmelbbbaaGreatDoorHb
set_option linter.unusedVariables false
set_option linter.unusedSimpArgs false
namespace Gls
open Go Go.Proofs

theorem bv32 (v : BitVec 32) : IntKind.u32.wrap (v.toNat : Int) = (v.toNat : Int) := by
  have := v.isLt
  exact wu32 (by omega) (by omega)
theorem of32 {a : Nat} (h : a < 4294967296) : BitVec.ofInt 32 (a : Int) = BitVec.ofNat 32 a := BitVec.ofInt_ofNat ..
@[simp high] theorem u32xor {a b : Nat} (ha : a < 4294967296) (hb : b < 4294967296) {k : AV → Prop} : xBin .xor (.int .u32 (a : Int)) (.int .u32 (b : Int)) k = k (.int .u32 ((a ^^^ b : Nat) : Int)) := by
  rw [aBin_xor]
  congr 2
  show IntKind.u32.wrap ((BitVec.ofInt 32 (a : Int) ^^^ BitVec.ofInt 32 (b : Int)).toNat : Int) = _
  rw [of32 ha, of32 hb, bv32, BitVec.toNat_xor, BitVec.toNat_ofNat, BitVec.toNat_ofNat, Nat.mod_eq_of_lt (by omega), Nat.mod_eq_of_lt (by omega)]
@[simp high] theorem u32and {a b : Nat} (ha : a < 4294967296) (hb : b < 4294967296) {k : AV → Prop} : xBin .and (.int .u32 (a : Int)) (.int .u32 (b : Int)) k = k (.int .u32 ((a &&& b : Nat) : Int)) := by
  rw [aBin_and]
  congr 2
  show IntKind.u32.wrap ((BitVec.ofInt 32 (a : Int) &&& BitVec.ofInt 32 (b : Int)).toNat : Int) = _
  rw [of32 ha, of32 hb, bv32, BitVec.toNat_and, BitVec.toNat_ofNat, BitVec.toNat_ofNat, Nat.mod_eq_of_lt (by omega), Nat.mod_eq_of_lt (by omega)]
@[simp high] theorem u32not {a : Nat} (ha : a < 4294967296) {k : AV → Prop} : xUn .xor (.int .u32 (a : Int)) k = k (.int .u32 ((4294967295 ^^^ a : Nat) : Int)) := by
  rw [aUn_xor]
  congr 2
  show IntKind.u32.wrap ((BitVec.ofInt 32 4294967295 ^^^ BitVec.ofInt 32 (a : Int)).toNat : Int) = _
  rw [of32 ha, bv32, BitVec.toNat_xor, BitVec.toNat_ofNat, Nat.mod_eq_of_lt (by omega)]
  rfl

theorem u32and1 {a : Nat} (ha : a < 4294967296) {k : AV → Prop} : xBin .and (.int .u32 (a : Int)) (.int .u32 1) k = k (.int .u32 ((a % 2 : Nat) : Int)) := by
  have := u32and (b := 1) ha (by omega) (k := k)
  rw [Nat.and_one_is_mod] at this
  exact this
theorem u32andL {a : Nat} (ha : a < 4294967296) {k : AV → Prop} : xBin .and (.int .u32 3988292384) (.int .u32 (a : Int)) k = k (.int .u32 ((3988292384 &&& a : Nat) : Int)) :=
  u32and (a := 3988292384) (by omega) ha (k := k)
theorem u32neg (a : Nat) : IntKind.u32.wrap (-((a : Int) % 2)) = ((if a % 2 = 1 then 4294967295 else 0 : Nat) : Int) := by
  have e : ((a : Int) % 2) = ((a % 2 : Nat) : Int) := by omega
  rw [e]
  rcases Nat.mod_two_eq_zero_or_one a with h | h <;> rw [h] <;> rfl

def sumStep (c : Nat) : Nat := (c / 2) ^^^ (3988292384 &&& (if c % 2 = 1 then 4294967295 else 0))
def sumRep : Nat → Nat → Nat
  | 0, c => c
  | n + 1, c => sumRep n (sumStep c)
def sumByte (c : Nat) (b : UInt8) : Nat := sumRep 8 (c ^^^ b.toNat)
def sumN (s : List UInt8) : Nat := 4294967295 ^^^ s.foldl sumByte 4294967295

theorem xor32 {a b : Nat} (ha : a < 4294967296) (hb : b < 4294967296) : a ^^^ b < 4294967296 := Nat.xor_lt_two_pow (n := 32) ha hb
theorem and32 {a b : Nat} (hb : b < 4294967296) : a &&& b < 4294967296 := Nat.lt_of_le_of_lt Nat.and_le_right hb
theorem sumStep_lt {c : Nat} (h : c < 4294967296) : sumStep c < 4294967296 := xor32 (by omega) (and32 (by split <;> omega))
theorem sumRep_succ (n c : Nat) : sumRep (n + 1) c = sumStep (sumRep n c) := by
  induction n generalizing c with
  | zero => rfl
  | succ n ih => rw [sumRep, ih]; rfl
theorem sumRep_lt {n c : Nat} (h : c < 4294967296) : sumRep n c < 4294967296 := by
  induction n with
  | zero => exact h
  | succ n ih => rw [sumRep_succ]; exact sumStep_lt ih
theorem sumByte_lt {c : Nat} {b : UInt8} (h : c < 4294967296) : sumByte c b < 4294967296 := sumRep_lt (xor32 h (by have := b.toNat_lt; omega))
theorem fold_lt {s : List UInt8} {c : Nat} (h : c < 4294967296) : s.foldl sumByte c < 4294967296 := by
  induction s generalizing c with
  | nil => exact h
  | cons b s ih => exact ih (sumByte_lt h)
theorem sumN_lt (s : List UInt8) : sumN s < 4294967296 := xor32 (by omega) (fold_lt (by omega))

theorem Sum_ok (h : AH) (s : List UInt8) (hs : s.length ≤ 2 ^ 40) : PCalls Tryz.prog 77 [.str s] h (.int .u32 (sumN s)) := by
  refine PCalls_fn mixed F77 (by simp) fun _ => ?_
  unfold c77; simp -dsimp -implicitDefEqProofs (disch := omega)
  refine xLoop mixed (fun k σ h' => h' = h ∧ ∃ i : Nat, k = s.length - i ∧ i ≤ s.length ∧ σ 0 = .str s ∧ σ 6 = .int .i64 s.length ∧ σ 7 = .int .i64 i ∧ σ 3 = .int .u32 ((s.take i).foldl sumByte 4294967295 : Nat)) s.length ⟨rfl, 0, by simp⟩ ?_
  rintro k σ h2 ⟨rfl, i, rfl, hi, e0, e6, e7, e3⟩
  unfold c77_1; simp -dsimp -implicitDefEqProofs (disch := omega) [e0, e6, e7, e3]
  have hf : (s.take i).foldl sumByte 4294967295 < 4294967296 := fold_lt (by omega)
  refine branch_dec (fun h3 => ?_) fun h3 => ?_
  · have h3' : i < s.length := by omega
    simp -dsimp -implicitDefEqProofs (disch := omega) [e0, e6, e7, e3]
    have hb := (s[i]).toNat_lt
    have hw : IntKind.u32.wrap (s[i].toNat : Int) = (s[i].toNat : Int) := wu32 (by omega) (by omega)
    rw [hw]
    rw [u32xor hf (by omega)]
    have hc := xor32 hf (b := s[i].toNat) (by omega)
    generalize hcd : ((s.take i).foldl sumByte 4294967295 ^^^ s[i].toNat) = c at hc ⊢
    simp -dsimp -implicitDefEqProofs (disch := omega) [e0, e6, e7, e3]
    refine xLoop mixed (fun k σ h' => h' = h2 ∧ ∃ j : Nat, k = 8 - j ∧ j ≤ 8 ∧ σ 0 = .str s ∧ σ 6 = .int .i64 s.length ∧ σ 7 = .int .i64 i ∧ σ 16 = .int .i64 j ∧ σ 3 = .int .u32 (sumRep j c : Nat)) 8 ⟨rfl, 0, by simp, by simp, by simpa using e0, by simpa using e6, by simpa using e7, by simp, by simp [sumRep]⟩ ?_
    rintro k σ h' ⟨rfl, j, rfl, hj, g0, g6, g7, g16, g3⟩
    unfold c77_0; simp -dsimp -implicitDefEqProofs (disch := omega) [g0, g6, g7, g16, g3]
    have hr := sumRep_lt (n := j) hc
    refine branch_dec (fun h4 => ?_) fun h4 => ?_
    · simp -dsimp -implicitDefEqProofs (disch := omega) [g0, g6, g7, g16, g3]
      rw [u32and1 hr]
      simp -dsimp -implicitDefEqProofs (disch := omega) [g0, g6, g7, g16, g3]
      rw [u32neg, u32andL (by split <;> omega)]
      simp -dsimp -implicitDefEqProofs (disch := omega) [g0, g6, g7, g16, g3]
      have hsh : ((sumRep j c : Nat) : Int).fdiv 2 = ((sumRep j c / 2 : Nat) : Int) := by
        have := shrI (sumRep j c) 1
        simpa [shr] using this
      rw [hsh, u32xor (by omega) (and32 (by split <;> omega))]
      simp -dsimp -implicitDefEqProofs (disch := omega) [g0, g6, g7, g16, g3]
      refine again_of (8 - (j + 1)) (by omega) ⟨rfl, j + 1, rfl, by omega, by simpa using g0, by simpa using g6, by simpa using g7, by simp -dsimp -implicitDefEqProofs (disch := omega), ?_⟩
      simp -dsimp -implicitDefEqProofs (disch := omega)
      rw [sumRep_succ]; rfl
    · have : j = 8 := by omega
      subst this
      simp -dsimp -implicitDefEqProofs (disch := omega) [g0, g6, g7, g16, g3]
      refine again_of (s.length - (i + 1)) (by omega) ⟨rfl, i + 1, rfl, by omega, by simpa using g0, by simpa using g6, by simp -dsimp -implicitDefEqProofs (disch := omega), ?_⟩
      rw [List.take_add_one, List.getElem?_eq_getElem h3']
      simp only [Option.toList_some, List.foldl_append, List.foldl_cons, List.foldl_nil]
      simp -dsimp -implicitDefEqProofs (disch := omega) [g3]
      have : sumByte ((s.take i).foldl sumByte 4294967295) s[i] = sumRep 8 c := congrArg (sumRep 8) hcd
      rw [this]
  · simp -dsimp -implicitDefEqProofs (disch := omega) [e0, e6, e7, e3]
    have : i = s.length := by omega
    subst this
    rw [List.take_length] at hf ⊢
    exact ⟨.refl _, .refl _⟩
end Gls
