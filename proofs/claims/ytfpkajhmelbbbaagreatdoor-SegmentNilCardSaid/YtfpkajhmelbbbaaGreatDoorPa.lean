/- Plain lists: zeros that are escaped; decimal digits. No condition. -/
import Derived.Lib.Replace
import Derived.Lib.IndexBytes
import Derived.Lib.IndexLaws
import Derived.Lib.ItoaNum
namespace Gls
open Go

/-- No 0 stands without a 255 behind it. -/
def zesc : List UInt8 → List UInt8
  | [] => []
  | b :: s => if b = 0 then 0 :: 255 :: zesc s else b :: zesc s

theorem zesc_app {s t : List UInt8} : zesc (s ++ t) = zesc s ++ zesc t := by
  induction s with
  | nil => rfl
  | cons b s ih => simp only [List.cons_append, zesc]; split <;> simp [ih]
theorem zesc_free {s : List UInt8} (h : s.count 0 = 0) : zesc s = s := by
  induction s with
  | nil => rfl
  | cons b s ih =>
    have hb : b ≠ 0 := fun e => by subst e; simp at h
    have hs : s.count 0 = 0 := by rw [List.count_cons_of_ne hb] at h; exact h
    simp [zesc, hb, ih hs]
theorem zesc_length (s : List UInt8) : (zesc s).length ≤ 2 * s.length := by
  induction s with
  | nil => simp [zesc]
  | cons b s ih => simp only [zesc]; split <;> simp <;> omega

theorem indexByte_split : ∀ {s : List UInt8}, 0 < s.count 0 → ∃ (i : Nat) (a r : List UInt8), Lib.indexByte s 0 = i ∧ s = a ++ 0 :: r ∧ a.length = i ∧ a.count 0 = 0 := by
  intro s
  induction s with
  | nil => intro h; simp at h
  | cons b s ih =>
    intro h
    by_cases hb : b = 0
    · subst hb; exact ⟨0, [], s, by simp [Lib.indexByte], rfl, rfl, rfl⟩
    · rw [List.count_cons_of_ne hb] at h
      obtain ⟨i, a, r, h1, h2, h3, h4⟩ := ih h
      refine ⟨i + 1, b :: a, r, ?_, by rw [h2]; rfl, by simp [h3], by rw [List.count_cons_of_ne hb]; exact h4⟩
      unfold Lib.indexByte
      rw [h1]
      have : ¬ ((i : Int) = -1) := by omega
      simp [hb, this]

theorem replaceK_zero : ∀ (k : Nat) (s : List UInt8), s.count 0 = k → Lib.replaceK [0] [0, 255] k s = zesc s := by
  intro k
  induction k with
  | zero => intro s h; rw [zesc_free h]; rfl
  | succ k ih =>
    intro s h
    obtain ⟨i, a, r, h1, h2, h3, h4⟩ := indexByte_split (s := s) (by omega)
    rw [Lib.replaceK_hit [0] [0, 255] k s i (by rw [Lib.index_one]; exact h1)]
    have hr : r.count 0 = k := by rw [h2] at h; simp [h4] at h; exact h
    have e1 : s.take i = a := by rw [h2, ← h3]; simp
    have e2 : s.drop (i + [(0 : UInt8)].length) = r := by rw [h2, ← h3]; simp
    rw [e1, e2, ih r hr, h2, zesc_app, zesc_free h4]
    simp [zesc]

theorem replaceAll_zero (s : List UInt8) : Lib.replaceAll s [0] [0, 255] = zesc s := by
  unfold Lib.replaceAll Lib.replace Lib.replaceNum
  rw [if_neg (by decide), if_pos (.inl (by omega))]
  exact replaceK_zero _ s (Lib.count_one 0 s).symm

/-- Decimal digits, for so many digits at most. -/
def digF : Nat → Nat → List UInt8
  | 0, _ => []
  | k + 1, u => match Nat.blt u 10 with
    | true => [UInt8.ofNat (48 + u)]
    | false => digF k (u / 10) ++ [UInt8.ofNat (48 + u % 10)]
theorem digF_eq : ∀ (k u : Nat), u < 10 ^ k → 0 < k → digF k u = Lib.decDigits u := by
  intro k
  induction k with
  | zero => intro u h h0; omega
  | succ k ih =>
    intro u h _
    rw [Lib.decDigits]
    unfold digF
    by_cases hu : u < 10
    · have : Nat.blt u 10 = true := Nat.ble_eq_true_of_le hu
      rw [this, dif_pos hu]
    · have : Nat.blt u 10 = false := by
        cases hb : Nat.blt u 10 with
        | true => exact absurd (Nat.le_of_ble_eq_true hb) hu
        | false => rfl
      rw [this, dif_neg hu]
      have hk : 0 < k := by
        rcases Nat.eq_zero_or_pos k with rfl | hk
        · simp at h; omega
        · exact hk
      rw [ih (u / 10) (by rw [Nat.pow_succ] at h; omega) hk]
def itoaF (n : Int) : List UInt8 := match n with
  | .ofNat u => digF 20 u
  | .negSucc u => 45 :: digF 20 (u + 1)
theorem itoaF_eq {n : Int} (h0 : -9223372036854775808 ≤ n) (h1 : n ≤ 9223372036854775807) : itoaF n = Lib.itoa n := by
  unfold itoaF Lib.itoa
  cases n with
  | ofNat u =>
    simp only
    rw [if_neg (by show ¬ (Int.ofNat u < 0); simp)]
    exact digF_eq 20 u (by simp at h1; omega) (by omega)
  | negSucc u =>
    simp only
    rw [if_pos (by omega), digF_eq 20 (u + 1) (by omega) (by omega)]
    rfl
end Gls
