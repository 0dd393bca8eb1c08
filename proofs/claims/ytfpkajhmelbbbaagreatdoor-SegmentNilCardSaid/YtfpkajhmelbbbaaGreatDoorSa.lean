/- Go's library in the view, by the shelf's contracts. No condition. -/
import Derived.Test.YtfpkajhmelbbbaaGreatDoorSh
import Derived.Test.YtfpkajhmelbbbaaGreatDoorEc
import Derived.Lib.QuietBelow
import Derived.Lib.SplitLaws
import Derived.Test.YtfpkajhmelbbbaaGreatDoorPa
set_option linter.unusedVariables false
set_option linter.unusedSimpArgs false
namespace Gls
open Go Go.Proofs Go.RowKit Go.Sort

theorem HRel.below {P : Program} {m : Emb} {h : AH} {w w' : World} (R : HRel P m h w) (B : RowKit.Below w.heap.size w w') : HRel P m h w' :=
  R.grow B.os B.tape B.output B.size fun b hb => B.block b hb

theorem grow_below (w : World) (n : Nat) (os : Array Obj) : RowKit.Below w.heap.size w (grow (w.drewN n) os) :=
  ⟨rfl, rfl, rfl, by simp [grow], fun k hk => by simp [grow, Array.getElem?_append, hk]⟩

theorem str_eq {m : Emb} {s : List UInt8} {c : Value} (h : VRel m (.str s) c) : c = .string ⟨s.toArray⟩ := by cases h; rfl
theorem int_eq' {m : Emb} {k : IntKind} {n : Int} {c : Value} (h : VRel m (.int k n) c) : c = .int k n := by cases h; rfl

theorem Itoa_ok (h : AH) (n : Int) (h0 : -9223372036854775808 ≤ n) (h1 : n ≤ 9223372036854775807) :
    ACalls Tryz.prog 151 [.int .i64 n] h fun v h' => v = .str (Lib.itoa n) ∧ h' = h := by
  intro m w cs R hv
  obtain ⟨c, cs', rfl, hc, hnil⟩ := hv.inv_cons
  obtain rfl := hnil.inv_nil
  obtain rfl := int_eq' hc
  refine Calls.mono (Tryz.strconv_Itoa n h0 h1 w (R.tab R.pre.2)) ?_
  rintro e w' ⟨rfl, k, os, rfl⟩
  exact ⟨m, _, h, _, .refl m, R.below (grow_below w k os), rfl, .str _, rfl, rfl⟩

theorem ReplaceAll_ok (h : AH) (s old new : List UInt8) (hs : s.length < 4294967281) (h1 : 1 ≤ old.length) (hlen : s.length + s.length * new.length ≤ 140737488355328) :
    ACalls Tryz.prog 71 [.str s, .str old, .str new] h fun v h' => v = .str (Lib.replaceAll s old new) ∧ h' = h := by
  intro m w cs R hv
  obtain ⟨c1, cs', rfl, hc1, hv⟩ := hv.inv_cons
  obtain ⟨c2, cs', rfl, hc2, hv⟩ := hv.inv_cons
  obtain ⟨c3, cs', rfl, hc3, hv⟩ := hv.inv_cons
  obtain rfl := hv.inv_nil
  obtain rfl := str_eq hc1
  obtain rfl := str_eq hc2
  obtain rfl := str_eq hc3
  obtain ⟨mx, hmx⟩ := R.pre.1 _ (by kernel_rfl : Tryz.prog.globalNamed "internal/bytealg.MaxLen" = some 0)
  have hcnt : Lib.countB ⟨s.toArray⟩ ⟨old.toArray⟩ ≤ s.length :=
    Lib.countB_le ⟨old.toArray⟩ (by simpa [ByteArray.size] using h1) s.length ⟨s.toArray⟩ (by simp [ByteArray.size])
  refine Calls.mono (Tryz.strings_ReplaceAll ⟨s.toArray⟩ ⟨old.toArray⟩ ⟨new.toArray⟩ mx w (by simpa [ByteArray.size] using hs) (R.old_cell hmx) (by simpa [ByteArray.size] using h1) (by
    have : Lib.countB ⟨s.toArray⟩ ⟨old.toArray⟩ * new.length ≤ s.length * new.length := Nat.mul_le_mul_right _ hcnt
    simp [ByteArray.size]; omega)) ?_
  rintro e w' ⟨rfl, B⟩
  exact ⟨m, _, h, _, .refl m, R.below B, rfl, .str _, by simp, rfl⟩

theorem Compare_ok (h : AH) (a b : List UInt8) :
    ACalls Tryz.prog 68 [.str a, .str b] h fun v h' => v = .int .i64 (Lib.compareBytes a b) ∧ h' = h := by
  intro m w cs R hv
  obtain ⟨c1, cs', rfl, hc1, hv⟩ := hv.inv_cons
  obtain ⟨c2, cs', rfl, hc2, hv⟩ := hv.inv_cons
  obtain rfl := hv.inv_nil
  obtain rfl := str_eq hc1
  obtain rfl := str_eq hc2
  refine Calls.mono (Tryz.strings_Compare ⟨a.toArray⟩ ⟨b.toArray⟩ w) ?_
  rintro e w' ⟨rfl, rfl⟩
  exact ⟨m, _, h, _, .refl m, R, rfl, .int _ _, rfl, rfl⟩

theorem Zero_ok (h : AH) (s : List UInt8) (hs : s.length < 4294967281) :
    ACalls Tryz.prog 71 [.str s, .str [0], .str [0, 255]] h fun v h' => v = .str (zesc s) ∧ h' = h := by
  have := ReplaceAll_ok h s [0] [0, 255] hs (by simp) (by simp; omega)
  rw [replaceAll_zero] at this
  exact this
end Gls
