/- From the view to the rows: where a call begins, and what is behind it. No condition. -/
import Derived.Test.YtfpkajhmelbbbaaGreatDoorSa
import Derived.Test.YtfpkajhmelbbbaaGreatDoorCards
import Derived.Test.YtfpkajhmelbbbaaGreatDoorTie
import Derived.WalkKit
import Derived.ProofKit
import Derived.OpenShut
import Derived.Below
import Derived.ChangeSame
import Derived.ChangeMaps5
import Derived.Deep.DeepHandedRow
import Derived.Lib.LaidTab
import Derived.LaidMore
import Derived.Lay
import Derived.MakeChecks
import Derived.SevenTiedAt
set_option linter.unusedVariables false
set_option linter.unusedSimpArgs false
namespace Gls
open Go Go.Proofs Go.ChangeShapes Go.WideShapes Go.ChangeAt Go.RowKit

section
variable {H : Type} {enc : TypeId × Value → H} {P : Program}
theorem post_of_below {f : Func} {s : ChangeSpec} {apart fresh handsOn again : Bool} {W W' : World} {args : Array Value} {v : Value} {ds gs : List (DataW H)} {before pa pv : List MemPlace}
    (hW : DataW.Whole enc P f.params.toList s.vars apart W args.toList ds gs before)
    (hres : ∀ (b : Nat) (sp : Nat → Bool) (hd : Bool), DataW.TrodAll enc P W' b sp hd f.resultTypes.toList (v.resultList f.resultTypes.size) (s.fn H (ds ++ gs)).results [])
    (hargs : ∀ sp : Nat → Bool, (∀ p ∈ before, sp p.block = true) → DataW.TrodAll enc P W' 0 sp true f.params.toList args.toList (s.fn H (ds ++ gs)).args pa)
    (hvars : ∀ sp : Nat → Bool, (∀ p ∈ before, sp p.block = true) → DataW.TrodVars enc P W' sp s.vars (s.fn H (ds ++ gs)).vars pv)
    (hps : before = pa ++ pv) (hb : Below W.heap.size W W')
    (hok : ∀ (j : Nat) (t : TypeId) (r : Value), f.resultTypes[j]? = some t → (v.resultList f.resultTypes.size)[j]? = some r → Value.okWide P W' .any 0 t r) :
    s.post enc P f apart fresh handsOn again W args v W' := by
  have hlt : ∀ p ∈ before, p.block < W.heap.size := fun p hp => hW.lt p hp
  have hold : ∀ p ∈ before, (fun b => decide (b < W.heap.size)) p.block = true := fun p hp => by simpa using hlt p hp
  refine ⟨ds, gs, before, [], pa, pv, hW, hres _ _ _, hargs _ hold, hvars _ hold, World.keptBut_mono (fun p hp => ⟨hp, ?_⟩) (hb.frame (· ∈ before)), fun _ => ?_⟩
  · rw [hps, List.mem_append] at hp
    exact Or.inr hp
  · obtain ⟨_, _, _, _, _, hz, hn⟩ := hW
    refine ⟨hok, _, _, ([] ++ pa) ++ pv, ⟨[] ++ pa, pv, trodAll_append (hargs _ (fun _ _ => rfl)) (hres _ _ _), hvars _ (fun _ _ => rfl), rfl, ?_, ?_⟩, ?_⟩
    · intro b off hp
      have hin : MemPlace.cell b off ∈ before := by rw [hps]; simpa using hp
      rw [hb.frozen (hlt _ hin)]
      exact hz b off hin
    · intro ha
      have := hn ha
      rw [hps] at this
      simpa using this
    · intro p hp _
      rw [hps]
      simpa using hp
end

/-- What stands further down on a row's list. -/
theorem laidVars_tab {P : Program} {w : World} {name : String} {k : IntKind} {zs : List Int} {g : Nat} {t e : TypeId} {n : Nat}
    (hg : P.globalNamed name = some g) (hty : (P.globals[g]?).map (·.type) = some t) (ht : P.underlying t = some (.array n e)) (he : P.underlying e = some (.int k)) (hce : P.cellsOf e = 1) (hct : P.cellsOf t = n) :
    ∀ {l : List (String × DataW Unit)} {ps : List MemPlace}, DataW.LaidVars P w l ps → (∃ i : Nat, l[i]? = some (name, Lib.tabData k zs)) → Lib.TabIs P w name k zs := by
  intro l
  induction l with
  | nil => intro ps _ h; obtain ⟨i, h⟩ := h; simp at h
  | cons x l ih =>
    intro ps h hi
    obtain ⟨nm, d⟩ := x
    obtain ⟨g', t', cs, fuel, p, q, hg', ht', hvar, hd, hr, _⟩ := h
    obtain ⟨i, hi⟩ := hi
    cases i with
    | zero =>
      simp at hi
      obtain ⟨rfl, rfl⟩ := hi
      obtain rfl := Option.some.inj (hg.symm.trans hg')
      obtain rfl := Option.some.inj (hty.symm.trans ht')
      unfold Lib.TabIs
      rw [hvar, ← Lib.cells_of_tab ht he hce hct hd]
    | succ i => exact ih hr ⟨i, by simpa using hi⟩

theorem pow10_of {laid : List (String × DataW Unit)} {W : World} (hp : (laid.all fun x => x.2.handleName?.isNone) = true) (hi : ∃ i : Nat, laid[i]? = some ("internal/strconv.uint64pow10", Lib.tabData .u64 Lib.pow10Tab)) (h : laidMetH Tryz.prog laid W) :
    Lib.TabIs Tryz.prog W "internal/strconv.uint64pow10" .u64 Lib.pow10Tab := by
  rw [MakeChecks.laidMetH_plain _ _ _ hp] at h
  obtain ⟨ps, hl, _⟩ := h
  refine laidVars_tab (g := 3) (n := 20) (t := 252) (e := 61) (by kernel_rfl) (by kernel_rfl) (by kernel_rfl) (by kernel_rfl) (by kernel_rfl) (by kernel_rfl) hl hi

theorem pre_of {W : World} (hsh : W.ShapedOpen Tryz.prog) (T : Lib.TabIs Tryz.prog W "internal/strconv.uint64pow10" .u64 Lib.pow10Tab) : Pre Tryz.prog W := by
  refine ⟨fun g hg => ?_, T⟩
  have : Tryz.prog.globalNamed "internal/bytealg.MaxLen" = some 0 := by kernel_rfl
  rw [this] at hg; cases hg
  exact Tryz.laysM155.s1_3 W hsh

/-- Where a call begins, all memory stays as it is. -/
def start (W : World) : Emb := { loc := fun _ _ => none, mloc := fun _ _ => none, iloc := fun _ => none, imm := fun b => W.heap[b]?, w0 := W }
theorem start_ok {P : Program} {W : World} (hp : Pre P W) : HRel P (start W) AH.empty W :=
  { os := rfl, tape := rfl, output := rfl, size := Nat.le_refl _, imm := fun b o e => e, old := fun b _ => rfl, live := fun t i es e => (by cases e), maps := fun t i es e => (by cases e), itrs := fun i it e => (by cases e),
    apart := fun t i es t' i' es' L L' e => (by cases e), mapart := fun t i t' i' r e => (by cases e), mlt := fun t i r e => (by cases e), iapart := fun i it i' it' r e => (by cases e), sized := fun t i L e => (by cases e), fresh := fun _ _ _ => ⟨rfl, rfl, rfl⟩, pre := hp }
/-- A law that answers yes in the view answers yes, and what was there is as it was. -/
theorem law_yes {P : Program} {f : Nat} {vs : List AV} {cs : List Value} {W : World} (hp : Pre P W) (hv : VRels (start W) vs cs) (H : ACalls P f vs AH.empty fun v _ => v = .bool true) :
    Calls P f cs.toArray W fun e W' => e = .returned (.bool true) ∧ Below W.heap.size W W' := by
  refine Calls.mono (H _ W cs (start_ok hp) hv) ?_
  rintro e w' ⟨m', v', h', c, h1, h2, rfl, h4, rfl⟩
  have e0 := h1.w0
  refine ⟨by cases h4; rfl, by rw [h2.os, e0]; rfl, by rw [h2.tape, e0]; rfl, by rw [h2.output, e0]; rfl, by have := h2.size; rw [e0] at this; exact this, fun b hb => ?_⟩
  have : W.heap[b]? = some W.heap[b] := by simp [hb]
  rw [this]
  exact h2.imm b _ (h1.imm b _ this)
end Gls
