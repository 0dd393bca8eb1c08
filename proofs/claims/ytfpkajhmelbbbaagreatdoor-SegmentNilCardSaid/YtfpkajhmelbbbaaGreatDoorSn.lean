/- A nil segment has nothing; the law SegmentNil in the view. No condition. -/
import Derived.Test.YtfpkajhmelbbbaaGreatDoorRb
set_option linter.unusedVariables false
set_option linter.unusedSimpArgs false
namespace Gls
open Go Go.Proofs

theorem PCalls.pure {P : Program} {f : Nat} {vs : List AV} {h : AH} {v : AV} {Q : AV → AH → Prop} (H : PCalls P f vs h v) (hv : ∀ k, Lo k v) (k : Q v h) : xCalls P f vs h Q :=
  (H.clean (hv _)).mono fun v' h' e => by rw [e.1, e.2]; exact k

theorem Docs_nil (h : AH) : PCalls Tryz.prog 14 [.nilp] h (.int .i64 0) := by
  refine PCalls_fn mixed F14 (by simp) fun _ => ?_
  unfold c14; simp -dsimp -implicitDefEqProofs (disch := omega)
  exact ⟨.refl _, .refl _⟩
theorem find_nil (h : AH) (s : List UInt8) : PCalls Tryz.prog 56 [.nilp, .str s] h .nilp := by
  refine PCalls_fn mixed F56 (by simp) fun _ => ?_
  unfold c56; simp -dsimp -implicitDefEqProofs (disch := omega)
  exact ⟨.refl _, .refl _⟩
theorem Find_nil (h : AH) (s : List UInt8) : PCalls Tryz.prog 25 [.nilp, .str s] h (.tup [.int .i64 0, .bool false]) := by
  refine PCalls_fn mixed F25 (by simp) fun _ => ?_
  unfold c25; simp -dsimp -implicitDefEqProofs (disch := omega)
  exact ⟨.refl _, .refl _⟩
theorem Pieces_nil (h : AH) : PCalls Tryz.prog 22 [.nilp] h .nils := by
  refine PCalls_fn mixed F22 (by simp) fun _ => ?_
  unfold c22; simp -dsimp -implicitDefEqProofs (disch := omega)
  exact ⟨.refl _, .refl _⟩
theorem Terms_nil (h : AH) (s : List UInt8) : PCalls Tryz.prog 28 [.nilp, .str s] h .nilp := by
  refine PCalls_fn mixed F28 (by simp) fun _ => ?_
  unfold c28; simp -dsimp -implicitDefEqProofs (disch := omega)
  refine (find_nil _ _).pure (fun _ => .nilp) ?_
  simp -dsimp -implicitDefEqProofs (disch := omega)
  exact ⟨.refl _, .refl _⟩
theorem Posts_nil (h : AH) (s t : List UInt8) : PCalls Tryz.prog 29 [.nilp, .str s, .str t] h .nils := by
  refine PCalls_fn mixed F29 (by simp) fun _ => ?_
  unfold c29; simp -dsimp -implicitDefEqProofs (disch := omega)
  refine (find_nil _ _).pure (fun _ => .nilp) ?_
  simp -dsimp -implicitDefEqProofs (disch := omega)
  exact ⟨.refl _, .refl _⟩
theorem Key_nil (h : AH) (d : Int) : PCalls Tryz.prog 24 [.nilp, .int .i64 d] h (.tup [.str [], .bool false]) := by
  refine PCalls_fn mixed F24 (by simp) fun _ => ?_
  unfold c24; simp -dsimp -implicitDefEqProofs (disch := omega)
  refine branch_dec (fun h1 => ?_) fun h1 => ?_
  · simp -dsimp -implicitDefEqProofs (disch := omega) [h1]
    exact ⟨.refl _, .refl _⟩
  · simp -dsimp -implicitDefEqProofs (disch := omega) [h1]
    refine (Docs_nil _).pure (fun _ => .int) ?_
    simp -dsimp -implicitDefEqProofs (disch := omega) [h1]
    refine branch_dec (fun h2 => ?_) fun h2 => absurd (Int.not_lt.1 h1) h2
    simp -dsimp -implicitDefEqProofs (disch := omega)
    exact ⟨.refl _, .refl _⟩
theorem Num_nil (h : AH) (s : List UInt8) (d : Int) : PCalls Tryz.prog 26 [.nilp, .str s, .int .i64 d] h (.tup [.int .u64 0, .bool false]) := by
  refine PCalls_fn mixed F26 (by simp) fun _ => ?_
  unfold c26; simp -dsimp -implicitDefEqProofs (disch := omega)
  refine branch_dec (fun h1 => ?_) fun h1 => ?_
  · simp -dsimp -implicitDefEqProofs (disch := omega) [h1]
    exact ⟨.refl _, .refl _⟩
  · simp -dsimp -implicitDefEqProofs (disch := omega) [h1]
    refine (Docs_nil _).pure (fun _ => .int) ?_
    simp -dsimp -implicitDefEqProofs (disch := omega) [h1]
    refine branch_dec (fun h2 => ?_) fun h2 => absurd (Int.not_lt.1 h1) h2
    simp -dsimp -implicitDefEqProofs (disch := omega)
    exact ⟨.refl _, .refl _⟩
theorem Len_nil (h : AH) (s : List UInt8) (d : Int) : PCalls Tryz.prog 27 [.nilp, .str s, .int .i64 d] h (.tup [.int .i64 0, .bool false]) := by
  refine PCalls_fn mixed F27 (by simp) fun _ => ?_
  unfold c27; simp -dsimp -implicitDefEqProofs (disch := omega)
  refine (find_nil _ _).pure (fun _ => .nilp) ?_
  simp -dsimp -implicitDefEqProofs (disch := omega)
  exact ⟨.refl _, .refl _⟩
theorem Lo.pair {a b : AV} (ha : ∀ k, Lo k a) (hb : ∀ k, Lo k b) (k : Nat) : Lo k (.tup [a, b]) := .tup (.cons (ha k) (.cons (hb k) .nil))

theorem SegmentNil_ok (h : AH) (key name : List UInt8) (d : Int) : PCalls Tryz.prog 6 [.str key, .str name, .int .i64 d] h (.bool true) := by
  refine PCalls_fn mixed F6 (by simp) fun _ => ?_
  unfold c6; simp -dsimp -implicitDefEqProofs (disch := omega)
  refine (Key_nil _ _).pure (Lo.pair (fun _ => .str) fun _ => .bool) ?_
  simp -dsimp -implicitDefEqProofs (disch := omega)
  refine (Find_nil _ _).pure (Lo.pair (fun _ => .int) fun _ => .bool) ?_
  simp -dsimp -implicitDefEqProofs (disch := omega)
  refine (Num_nil _ _ _).pure (Lo.pair (fun _ => .int) fun _ => .bool) ?_
  simp -dsimp -implicitDefEqProofs (disch := omega)
  refine (Len_nil _ _ _).pure (Lo.pair (fun _ => .int) fun _ => .bool) ?_
  simp -dsimp -implicitDefEqProofs (disch := omega)
  refine (awake16_ok _).use fun v h' e => ?_
  obtain ⟨rfl, rfl⟩ := e
  simp -dsimp -implicitDefEqProofs (disch := omega)
  refine (Docs_nil _).pure (fun _ => .int) ?_
  simp -dsimp -implicitDefEqProofs (disch := omega)
  refine (Terms_nil _ _).pure (fun _ => .nilp) ?_
  simp -dsimp -implicitDefEqProofs (disch := omega)
  refine (Posts_nil _ _ _).pure (fun _ => .nils) ?_
  simp -dsimp -implicitDefEqProofs (disch := omega)
  refine (Pieces_nil _).pure (fun _ => .nils) ?_
  simp -dsimp -implicitDefEqProofs (disch := omega)
  exact ⟨.refl _, .refl _⟩
end Gls
