/- strings.Builder's copyCheck and String, at whatever address. No condition. -/
import Derived.Test.YtfpkajhmelbbbaaGreatDoorProg
import Derived.WalkKit
import Derived.Lib.Builder
import Derived.Lib.UnsafeStr
import Derived.RegionTactic
set_option linter.unusedVariables false
set_option linter.unusedSimpArgs false
namespace Gls
open Go Go.Proofs Go.RowKit

section
variable (w : World)
set_option maxHeartbeats 1000000 in
set_option maxRecDepth 100000 in
theorem copyCheck_used (b o : Nat) (h0 : w.cell? ⟨b, o, none⟩ = some (.pointer (some ⟨b, o, none⟩))) :
    Calls Tryz.prog 69 #[.pointer (some ⟨b, o, none⟩)] w fun e w' => e = .returned (.tuple #[]) ∧ w' = w := by
  obtain ⟨j, hj, _⟩ : ∃ j, Tryz.prog.info? 99 = some j ∧ j.size = 2 := Option.map_eq_some_iff.1 (by kernel_rfl : (Tryz.prog.info? 99).map (·.size) = some 2)
  have up : Tryz.prog.underlying 96 = some (.pointer 99) := by kernel_rfl
  go_enter Tryz.func69, Tryz.ntmps69
  go_wp2
  rw [Lib.run_neq_ptr_same w _ up hj]
  go_wp2
  go_end0
  exact ⟨rfl, rfl⟩

set_option maxHeartbeats 1000000 in
set_option maxRecDepth 100000 in
theorem copyCheck_fresh (b o n : Nat) (h0 : w.cell? ⟨b, o, none⟩ = some (.pointer none)) (hsh : w.shape? b = some (99, n)) (hfz : w.frozen? ⟨b, o, none⟩ = false) (ho : o % 2 = 0) (hn : o + 2 ≤ n) :
    Calls Tryz.prog 69 #[.pointer (some ⟨b, o, none⟩)] w fun e w' => e = .returned (.tuple #[]) ∧ w' = w.setCell ⟨b, o, none⟩ (.pointer (some ⟨b, o, none⟩)) := by
  obtain ⟨j, hj, hjs⟩ : ∃ j, Tryz.prog.info? 99 = some j ∧ j.size = 2 := Option.map_eq_some_iff.1 (by kernel_rfl : (Tryz.prog.info? 99).map (·.size) = some 2)
  have up : Tryz.prog.underlying 96 = some (.pointer 99) := by kernel_rfl
  have uu : Tryz.prog.underlying 181 = some .unsafePointer := by kernel_rfl
  have lies : liesAt Tryz.prog Tryz.prog.depth 99 (n / Tryz.prog.cellsOf 99) o 99 1 = true := by
    have hs : Tryz.prog.cellsOf 99 = 2 := by kernel_rfl
    obtain ⟨d, hd⟩ : ∃ d, Tryz.prog.depth = d + 1 := ⟨_, rfl⟩
    rw [hs]
    have hsl : sameLayout Tryz.prog Tryz.prog.depth 99 99 = true := by kernel_rfl
    have e1 : liesAt Tryz.prog (d + 1) 99 (n / 2) o 99 1 = (rowAt Tryz.prog (sameLayout Tryz.prog Tryz.prog.depth · 99) Tryz.prog.depth 99 (n / 2) o 1 || (match Tryz.prog.underlying 99 with | some (.array m u') => liesAt Tryz.prog d 99 (n / 2) o u' (1 * m) | _ => false)) := by rw [liesAt]; rfl
    conv => lhs; rw [hd]
    rw [e1, Bool.or_eq_true]
    left
    conv => lhs; rw [hd]
    rw [rowAt]
    simp only [hs]
    have : o / 2 + 1 ≤ n / 2 := by omega
    simp [ho, this]
    left
    rw [← hd]; exact hsl
  go_enter Tryz.func69, Tryz.ntmps69
  go_wp2
  rw [Lib.run_to_unsafe w ⟨b, o, none⟩ up uu hj (by rw [hjs]; decide) hsh (by show o < n; omega)]
  simp only [Result.andThen]
  rw [Oper.upon_value]
  go_wp2
  rw [run_callFunc_extern Tryz.func96 (by kernel_rfl) (by kernel_rfl) (by kernel_rfl) (e := Extern.AbiNoEscape.same) (by kernel_rfl)]
  rw [Lib.run_noEscape]
  simp only [Result.andThen]
  rw [Oper.upon_value]
  go_wp2
  rw [Lib.run_from_unsafe w ⟨b, o, none⟩ uu up hj hsh lies]
  simp only [Result.andThen]
  rw [Oper.upon_value]
  go_wp2
  go_end0
  exact ⟨rfl, rfl⟩

theorem liesAt_bytes_at {P : Program} {e : TypeId} (hc : P.cellsOf e = 1) (count n o : Nat) (hn : o + n ≤ count) : liesAt P P.depth e count o e n = true := by
  have hd : P.depth = (2 * (P.types.size + Made.depth) + 1) + 1 := rfl
  rw [hd]
  simp only [liesAt, Bool.or_eq_true]
  left
  rw [hd]
  simp [rowAt, hc, hn, sameLayout]
  left; omega

theorem run_unsafeString_at {P : Program} (pt it ty e : TypeId) (hp : P.underlying pt = some (.pointer e)) (hc : P.cellsOf e = 1) (g o cells : Nat) (hsh : w.shape? g = some (e, cells)) (l : List UInt8) (h0 : l ≠ []) (hn : o + l.length ≤ cells) (h63 : l.length ≤ 9223372036854775807)
    (hcell : ∀ j x, l[j]? = some x → w.cell? ((⟨g, o, none⟩ : Addr).add j) = some (.int .u8 x.toNat)) :
    (Builtin.unsafeString_ #[pt, it] ty #[.pointer (some ⟨g, o, none⟩), .int .i64 l.length]).run P w = .ok (.string ⟨l.toArray⟩) (w.freeze ⟨g, o, none⟩ l.length) := by
  have hl : l.length ≠ 0 := by simpa using h0
  have hlb := Lib.run_loadBytes (P := P) w l ⟨g, o, none⟩ .empty hcell
  have hlies := liesAt_bytes_at (P := P) hc (cells / P.cellsOf e) l.length o (by rw [hc]; simpa using hn)
  have h63' : ¬ (9223372036854775807 : Int) < (l.length : Int) := by omega
  have hdef : Builtin.unsafeString_ #[pt, it] ty #[.pointer (some ⟨g, o, none⟩), .int .i64 l.length] =
      (do
        let n ← asInt (.int .i64 l.length)
        if n < 0 then runtimePanic (.error "unsafe.String: len out of range")
        if n > IntKind.i64.max then unsupported (.unsafePointer "String: a length above the largest int")
        if n = 0 then pure (.string .empty)
        else if ← variablesAt ⟨g, o, none⟩ (← elemOf pt) n.toNat then do
          let s ← loadBytes ⟨g, o, none⟩ .empty n.toNat
          freeze ⟨g, o, none⟩ n.toNat
          pure (.string s)
        else unsupported (.unsafePointer "String: not so many bytes at ptr")) := rfl
  rw [hdef]
  have hmax : IntKind.i64.max = 9223372036854775807 := rfl
  have hneg : ¬ (l.length : Int) < 0 := by omega
  simp [asInt, asIntOf, hmax, h63', hneg, hl, variablesAt, hsh, elemOf, run_underlying hp, hlies, hlb]

set_option maxHeartbeats 2000000 in
set_option maxRecDepth 100000 in
theorem String_run (b o : Nat) (g go cap cells : Nat) (l : List UInt8) (h1 : w.cell? ⟨b, o + 1, none⟩ = some (.slice (some ⟨g, go, none⟩) l.length cap)) (hsh : w.shape? g = some (5, cells)) (h0 : l ≠ []) (hc : l.length ≤ cap) (hn : go + l.length ≤ cells) (h63 : l.length ≤ 9223372036854775807)
    (hcell : ∀ j x, l[j]? = some x → w.cell? ((⟨g, go, none⟩ : Addr).add j) = some (.int .u8 x.toNat)) :
    Calls Tryz.prog 44 #[.pointer (some ⟨b, o, none⟩)] w fun e w' => e = .returned (.string ⟨l.toArray⟩) ∧ w' = w.drew.freeze ⟨g, go, none⟩ l.length := by
  have hl0 : l.length ≠ 0 := by simpa using h0
  have c1 : w.drew.cell? ⟨b, o + 1, none⟩ = some (.slice (some ⟨g, go, none⟩) l.length cap) := h1
  have hSD : (Builtin.unsafeSliceData_ #[97] 154 #[.slice (some ⟨g, go, none⟩) l.length cap]).run Tryz.prog w.drew = .ok (.pointer (some ⟨g, go, none⟩)) w.drew :=
    Lib.run_unsafeSliceData_row _ _ _ _ _ _ (by omega)
  have hUS : (Builtin.unsafeString_ #[154, 3] 9 #[.pointer (some ⟨g, go, none⟩), .int .i64 l.length]).run Tryz.prog w.drew = .ok (.string ⟨l.toArray⟩) (w.drew.freeze ⟨g, go, none⟩ l.length) := by
    refine run_unsafeString_at w.drew 154 3 9 5 (by kernel_rfl) (by kernel_rfl) g go cells hsh l h0 hn h63 hcell
  go_enter Tryz.func44, Tryz.ntmps44
  go_wp2
  go_region
  all_goals (go_wp2; go_ret; exact ⟨rfl, rfl⟩)
end
end Gls
