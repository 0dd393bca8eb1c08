/- tuple.spread, put, Nums, Block: what they write. No condition. -/
import Derived.Test.YtfpkajhmelbbbaaGreatDoorHb
set_option linter.unusedVariables false
set_option linter.unusedSimpArgs false
namespace Gls
open Go Go.Proofs

/-- The bytes of a number, the high ones first, each turned by one. -/
def spreadL (x : Nat) (flip : UInt8) : Nat → List UInt8
  | 0 => []
  | j + 1 => bxor (u8 (shr x (8 * j))) flip :: spreadL x flip j

theorem spread_ok (h : AH) (k0 : Nat) (v : AV) (l : List UInt8) (x k : Nat) (flip : UInt8) (hk : k ≤ 8) (hl : l.length ≤ 2 ^ 40) (h0 : k0 ≤ h.next) (O : Own k0 h 5 v (bytesV l)) :
    ACalls Tryz.prog 98 [v, .int .u64 x, .int .i64 k, .int .u8 flip.toNat] h fun v' h' => Own k0 h' 5 v' (bytesV (l ++ spreadL x flip k)) ∧ Upd h v h' v' := by
  refine ACalls_fn mixed F98 (by simp) fun _ => ?_
  unfold c98; simp -dsimp -implicitDefEqProofs (disch := omega)
  refine xLoop mixed (fun j σ h' => ∃ cur v', j ≤ 8 ∧ σ 0 = v' ∧ σ 1 = .int .u64 x ∧ σ 3 = .int .u8 flip.toNat ∧ σ 9 = .int .i64 ((j : Int) - 1) ∧ cur ++ spreadL x flip j = l ++ spreadL x flip k ∧ cur.length ≤ l.length + 8 - j ∧ Own k0 h' 5 v' (bytesV cur) ∧ Upd h v h' v') k ⟨l, v, by omega, by simp, by simp, by simp, by simp -dsimp -implicitDefEqProofs (disch := omega), rfl, by omega, O, .refl⟩ ?_
  rintro j σ h' ⟨cur, v', hj, e0, e1, e3, e9, ec, el, O', U'⟩
  unfold c98_0; simp -dsimp -implicitDefEqProofs (disch := omega) [e9, e0, e1, e3]
  refine branch_dec (fun h1 => ?_) fun h1 => ?_
  · simp -dsimp -implicitDefEqProofs (disch := omega) [e9, e0, e1, e3]
    obtain ⟨j, rfl⟩ : ∃ i, j = i + 1 := ⟨j - 1, by omega⟩
    refine need_of (by omega) ?_
    have e2 : ((x : Nat) : Int).fdiv (2 ^ min (8 * (((j + 1 : Nat) : Int) - 1)).toNat IntKind.u64.bits) = ((shr x (8 * j) : Nat) : Int) := by
      rw [bits_u64, show min (8 * (((j + 1 : Nat) : Int) - 1)).toNat 64 = 8 * j by omega, shrI]
    rw [e2]
    simp -dsimp -implicitDefEqProofs (disch := omega) [e9, e0, e1, e3, u8wrap]
    generalize hb : bxor (u8 (shr x (8 * j))) flip = b
    have hn := U'.but.next
    refine (O'.same (Same.push (.refl h') (T := 5) (es := [.int .u8 b.toNat]))).app (bytes := 1) (xs := bytesV [b]) (Lst.obj ?_ ?_) (by decide) bytesV_fit ?_ ?_ fun v2 h2 O2 U2 => ?_
    · simp
    · simp
    · rw [next_push]; omega
    · simp; omega
    simp -dsimp -implicitDefEqProofs (disch := omega) [e9, e0, e1, e3]
    refine again_of j (by omega) ⟨cur ++ [b], v2, by omega, by simp, by simpa using e1, by simpa using e3, by simp -dsimp -implicitDefEqProofs (disch := omega), ?_, by simp; omega, by simpa using O2, U'.trans ((Upd.same (Same.push (.refl h'))).trans U2)⟩
    rw [← ec, spreadL, hb]; simp
  · simp -dsimp -implicitDefEqProofs (disch := omega) [e0, e1, e3, e9]
    have : j = 0 := by omega
    subst this
    simp only [spreadL, List.append_nil] at ec
    rw [← bytesV_app, ← ec]
    exact ⟨O', U'⟩

/-- A whole number, as it is written. -/
def numL (n : Int) : List UInt8 :=
  if n > 111 then u8 (239 + sizeN (n - 112).toNat) :: spreadL (n - 112).toNat 0 (sizeN (n - 112).toNat)
  else if n < -112 then u8 (16 - sizeN (-113 - n).toNat) :: spreadL (-113 - n).toNat 255 (sizeN (-113 - n).toNat)
  else [u8 (128 + n).toNat]
def inI64 (n : Int) : Prop := -9223372036854775808 ≤ n ∧ n ≤ 9223372036854775807

theorem put_ok (h : AH) (k0 : Nat) (v : AV) (l : List UInt8) (n : Int) (hn : inI64 n) (hl : l.length + 1 ≤ 2 ^ 40) (h0 : k0 ≤ h.next) (O : Own k0 h 5 v (bytesV l)) :
    ACalls Tryz.prog 70 [v, .int .i64 n] h fun v' h' => Own k0 h' 5 v' (bytesV (l ++ numL n)) ∧ Upd h v h' v' := by
  obtain ⟨hn1, hn2⟩ := hn
  refine ACalls_fn mixed F70 (by simp) fun _ => ?_
  unfold c70; simp -dsimp -implicitDefEqProofs (disch := omega)
  refine branch_dec (fun h1 => ?_) fun h1 => ?_
  · simp -dsimp -implicitDefEqProofs (disch := omega)
    generalize hX : (n - 112).toNat = X
    have hx : n - 112 = ((X : Nat) : Int) := by omega
    have hs := sizeN_le (x := X) (by omega)
    rw [hx]
    refine (size_ok _ _ (by omega)).use fun m hm => ?_
    simp -dsimp -implicitDefEqProofs (disch := omega)
    refine ((O.same (Same.bump (.refl h) hm)).same (Same.push (.refl _))).app (bytes := 1) (xs := bytesV [u8 (239 + sizeN X)]) (Lst.obj ?_ ?_) (by decide) bytesV_fit ?_ ?_ fun v2 h2 O2 U2 => ?_
    · simp [bytesV]; rw [u8_toNat (by omega)]; omega
    · simp
    · rw [next_push, next_bump]; omega
    · simp; omega
    simp -dsimp -implicitDefEqProofs (disch := omega)
    rw [← bytesV_app] at O2
    refine (spread_ok h2 k0 v2 _ X (sizeN X) 0 (by omega) (by simp; omega) (by have := U2.but.next; rw [next_push, next_bump] at this; omega) O2).use fun v3 h3 ⟨O3, U3⟩ => ?_
    simp -dsimp -implicitDefEqProofs (disch := omega)
    have e : numL n = u8 (239 + sizeN X) :: spreadL X 0 (sizeN X) := by unfold numL; rw [if_pos (by omega), hX]
    rw [e]
    refine ⟨by simpa using O3, (Upd.same (Same.bump (.refl h) hm)).trans ((Upd.same (Same.push (.refl _))).trans (U2.trans U3))⟩
  · simp -dsimp -implicitDefEqProofs (disch := omega)
    refine branch_dec (fun h2 => ?_) fun h2 => ?_
    · simp -dsimp -implicitDefEqProofs (disch := omega)
      generalize hX : (-113 - n).toNat = X
      have hx : -113 - n = ((X : Nat) : Int) := by omega
      have hs := sizeN_le (x := X) (by omega)
      rw [hx]
      refine (size_ok _ _ (by omega)).use fun m hm => ?_
      simp -dsimp -implicitDefEqProofs (disch := omega)
      refine ((O.same (Same.bump (.refl h) hm)).same (Same.push (.refl _))).app (bytes := 1) (xs := bytesV [u8 (16 - sizeN X)]) (Lst.obj ?_ ?_) (by decide) bytesV_fit ?_ ?_ fun v2 h2 O2 U2 => ?_
      · simp [bytesV]; rw [u8_toNat (by omega)]; omega
      · simp
      · rw [next_push, next_bump]; omega
      · simp; omega
      simp -dsimp -implicitDefEqProofs (disch := omega)
      rw [← bytesV_app] at O2
      refine (spread_ok h2 k0 v2 _ X (sizeN X) 255 (by omega) (by simp; omega) (by have := U2.but.next; rw [next_push, next_bump] at this; omega) O2).use fun v3 h3 ⟨O3, U3⟩ => ?_
      simp -dsimp -implicitDefEqProofs (disch := omega)
      have e : numL n = u8 (16 - sizeN X) :: spreadL X 255 (sizeN X) := by unfold numL; rw [if_neg (by omega), if_pos (by omega), hX]
      rw [e]
      refine ⟨by simpa using O3, (Upd.same (Same.bump (.refl h) hm)).trans ((Upd.same (Same.push (.refl _))).trans (U2.trans U3))⟩
    · simp -dsimp -implicitDefEqProofs (disch := omega)
      refine (O.same (Same.push (.refl _))).app (bytes := 1) (xs := bytesV [u8 (128 + n).toNat]) (Lst.obj ?_ ?_) (by decide) bytesV_fit ?_ ?_ fun v2 h2 O2 U2 => ?_
      · simp [bytesV]; rw [u8_toNat (by omega)]; omega
      · simp
      · rw [next_push]; omega
      · simp; omega
      simp -dsimp -implicitDefEqProofs (disch := omega)
      have e : numL n = [u8 (128 + n).toNat] := by unfold numL; rw [if_neg (by omega), if_neg (by omega)]
      rw [e]
      refine ⟨by simpa using O2, (Upd.same (Same.push (.refl _))).trans U2⟩

theorem spreadL_len (x : Nat) (f : UInt8) (k : Nat) : (spreadL x f k).length = k := by
  induction k with
  | zero => rfl
  | succ k ih => simp [spreadL, ih]
theorem numL_len {n : Int} (hn : inI64 n) : 1 ≤ (numL n).length ∧ (numL n).length ≤ 9 := by
  obtain ⟨h1, h2⟩ := hn
  unfold numL
  split
  · have := sizeN_le (x := (n - 112).toNat) (by omega); simp [spreadL_len]; omega
  · split
    · have := sizeN_le (x := (-113 - n).toNat) (by omega); simp [spreadL_len]; omega
    · simp

def numsL (l : List Int) : List UInt8 := l.flatMap numL

theorem Nums_ok (h : AH) (v : AV) (l : List Int) (hl : ∀ n ∈ l, inI64 n) (hlen : l.length ≤ 2 ^ 32) (L : Lst h 3 1 v (intsV l)) : PCalls Tryz.prog 39 [v] h (.str (numsL l)) := by
  refine PCalls_fn mixed F39 (by simp) fun wf => ?_
  unfold c39; simp -dsimp -implicitDefEqProofs (disch := omega)
  refine L.len ?_
  simp -dsimp -implicitDefEqProofs (disch := omega)
  refine xLoop mixed (fun j σ h' => ∃ (i : Nat) (acc : AV), j = l.length - i ∧ i ≤ l.length ∧ σ 3 = acc ∧ σ 6 = v ∧ σ 7 = .int .i64 l.length ∧ σ 8 = .int .i64 i ∧ Own h.next h' 5 acc (bytesV (numsL (l.take i))) ∧ Same h h') l.length ⟨0, .nils, by omega, by omega, by simp, by simp, by simp, by simp, .nils, .refl h⟩ ?_
  rintro j σ h' ⟨i, acc, rfl, hi, e3, e6, e7, e8, O, S⟩
  unfold c39_0; simp -dsimp -implicitDefEqProofs (disch := omega) [e3, e6, e7, e8]
  have small : ∀ l : List Int, (∀ n ∈ l, inI64 n) → (numsL l).length ≤ l.length * 9 := by
    intro l
    induction l with
    | nil => intro _; simp [numsL]
    | cons a l ih =>
      intro h
      have h1 := ih fun n hn => h n (List.mem_cons_of_mem _ hn)
      have h2 := (numL_len (h a (by simp))).2
      simp only [numsL, List.flatMap_cons, List.length_append, List.length_cons] at h1 ⊢
      omega
  refine branch_dec (fun h1 => ?_) fun h1 => ?_
  · have hlt : i < l.length := by omega
    simp -dsimp -implicitDefEqProofs (disch := omega) [e3, e6, e7, e8]
    refine (L.same wf S).at (by omega) (e := .int .i64 l[i]) (by simp [intsV, hlt]) fun p hp => ?_
    simp -dsimp -implicitDefEqProofs (disch := omega) [e3, e6, e7, e8]
    refine hp.load ?_
    simp -dsimp -implicitDefEqProofs (disch := omega) [e3, e6, e7, e8]
    have hs := small (l.take i) fun n hn => hl n (List.mem_of_mem_take hn)
    rw [List.length_take] at hs
    refine (put_ok h' h.next acc _ l[i] (hl _ (List.getElem_mem _)) (by omega) S.next O).use fun v2 h2 ⟨O2, U2⟩ => ?_
    simp -dsimp -implicitDefEqProofs (disch := omega) [e3, e6, e7, e8]
    refine again_of (l.length - (i + 1)) (by omega) ⟨i + 1, v2, rfl, by omega, by simp, by simpa using e6, by simpa using e7, by simp -dsimp -implicitDefEqProofs (disch := omega), ?_, U2.keeps S fun j hj => (O.new hj).1⟩
    have : numsL (l.take (i + 1)) = numsL (l.take i) ++ numL l[i] := by
      rw [List.take_add_one, List.getElem?_eq_getElem hlt]
      simp only [numsL, List.flatMap_append, List.flatMap_cons, List.flatMap_nil, Option.toList_some, List.append_nil]
    rw [this]; exact O2
  · have : i = l.length := by omega
    subst this
    rw [List.take_length] at O
    simp -dsimp -implicitDefEqProofs (disch := omega) [e3, e6, e7, e8]
    refine need_of (O.lst (sz := 1)).isSl (O.lst.elems ?_)
    rw [bytesOf_bytesV]
    simp -dsimp -implicitDefEqProofs (disch := omega)
    exact ⟨.refl _, S⟩

theorem Block_ok (h : AH) (s : List UInt8) (hs : s.length ≤ 2 ^ 40) : PCalls Tryz.prog 74 [.str s] h (.str (numL s.length ++ s)) := by
  refine PCalls_fn mixed F74 (by simp) fun wf => ?_
  unfold c74; simp -dsimp -implicitDefEqProofs (disch := omega)
  refine (Nums_ok _ _ [(s.length : Int)] (by simp [inI64]; omega) (by simp) (Lst.obj ?_ ?_)).use fun n hn => ?_
  · simp
  · simp
  rw [next_push] at hn
  have := (numL_len (n := (s.length : Int)) ⟨by omega, by omega⟩).2
  simp -dsimp -implicitDefEqProofs (disch := omega) [numsL]
  refine need_of (by omega) ?_
  simp -dsimp -implicitDefEqProofs (disch := omega)
  exact ⟨.refl _, (Same.push (.refl h)).bump (by rw [next_push]; exact hn)⟩
end Gls
