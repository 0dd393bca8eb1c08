/- What the segment's first example tells, run through in three parts. No condition. -/
import Derived.Test.YtfpkajhmelbbbaaGreatDoorRa
set_option linter.unusedVariables false
set_option linter.unusedSimpArgs false
namespace Gls
open Go Go.Proofs

/-- A call whose answer is known for some values. -/
def spLit (vs0 : List AV) (v : AV) : Sp := fun vs h => match mapO (rdA h 60) vs with
  | some vs' => match all2 (beqA 60) vs' vs0 with
    | true => some (v, h)
    | false => none
  | none => none
theorem spLit_ok {f : Nat} {vs0 : List AV} {v : AV} (H : ACalls Tryz.prog f vs0 AH.empty fun v' _ => v' = v) (hv : isAtom v = true) : SpOk f (spLit vs0 v) := by
  intro vs h p e
  unfold spLit at e
  split at e
  · rename_i vs' hr
    split at e
    · rename_i hb
      cases e
      have := all2_eq (fun _ _ => beqA_eq) hb
      subst this
      obtain ⟨a, b⟩ := mapO_get hr
      exact ACalls.frameR H (isAtom_sound hv) a fun i u u' x y => rdA_sound (b i u u' x y)
    · cases e
  · cases e
/-- A closed call, run through. -/
def isLit (v : AV) (r : Rs (AV × CH)) : Bool := match r with
  | some l => l.all fun p => beqA 60 p.1 v
  | none => false
theorem run_lit {l : List (Nat × Sp)} (hl : SpsOk l) {d f : Nat} {vs : List AV} {v : AV} (e : isLit v (callN FT (fun f vs h => spFind f vs h l) d f vs CH.none) = true) : ACalls Tryz.prog f vs AH.empty fun v' _ => v' = v := by
  rw [← none_abs]
  cases hr : callN FT (fun f vs h => spFind f vs h l) d f vs CH.none with
  | none => rw [hr] at e; cases e
  | some r =>
    rw [hr] at e
    refine (callN_sound mixed FT_ok (spFind_ok hl) d f vs CH.none r _ hr fun p hp => ?_).1
    exact beqA_eq (List.all_eq_true.1 e p hp)

def exDocs : AV := .vals 3 [.agg [.str [107, 49], .vals 2 [.agg [.str [110], .int .u64 5]], .vals 2 [.agg [.str [116], .vals 2 [.agg [.str [97], .int .i64 0], .agg [.str [98], .int .i64 1], .agg [.str [97], .int .i64 2]]]]], .agg [.str [107, 50], .nils, .vals 2 [.agg [.str [116], .nils]]]]
def exCont : List UInt8 := [130, 107, 49, 0, 1, 129, 110, 0, 1, 5, 0, 0, 0, 0, 0, 0, 0, 107, 50, 0, 1, 128, 129, 116, 0, 1, 130, 3, 12, 139, 130, 128, 129, 128, 132, 225, 128, 128, 226, 129, 128, 136, 129, 0, 129, 2, 2, 130, 2, 8, 136, 129, 0, 129, 1, 1, 129, 1, 1]
def exBytes : List UInt8 := 103 :: 108 :: 115 :: 1 :: 187 :: (exCont ++ [205, 207, 133, 18])
theorem exWrite : ACalls Tryz.prog 16 [exDocs] AH.empty fun v _ => v = .tup [.str exBytes, .int .i64 0] := run_lit (d := 20) specL_ok (by kernel_rfl)
theorem exOpen : ACalls Tryz.prog 33 [.int .i64 1, .str exBytes] AH.empty fun v _ => v = .tup [.str exCont, .int .i64 0] := run_lit (d := 20) specL_ok (by kernel_rfl)
def exL : List (Nat × Sp) := (16, spLit [exDocs] (.tup [.str exBytes, .int .i64 0])) :: (33, spLit [.int .i64 1, .str exBytes] (.tup [.str exCont, .int .i64 0])) :: specL
theorem exL_ok : SpsOk exL := .cons (spLit_ok exWrite rfl) (by kernel_rfl) (.cons (spLit_ok exOpen rfl) (by kernel_rfl) specL_ok)
theorem awake16_ok (h : AH) : ACalls Tryz.prog 18 [] h fun v' h' => v' = .bool true ∧ h' = h := ACalls.frame (run_lit (d := 40) exL_ok (by kernel_rfl)) .bool .nil h
end Gls
