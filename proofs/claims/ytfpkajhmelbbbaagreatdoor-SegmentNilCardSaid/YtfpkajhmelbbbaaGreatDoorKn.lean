/- The law SegmentNil of the segment's chapter: a nil segment has nothing: for every key, name and document's number the law answers true, and each argument reads behind the call as before. No condition but that the library's listed tables hold what they are laid with; the card ties these. -/
import Derived.Test.YtfpkajhmelbbbaaGreatDoorSn
import Derived.Test.YtfpkajhmelbbbaaGreatDoorKa
set_option linter.unusedVariables false
set_option linter.unusedSimpArgs false
namespace Go.Proofs.YtfpkajhmelbbbaaGreatDoor
open Go Go.Proofs Go.ChangeShapes Go.WideShapes Go.ChangeAt Go.RowKit Gls Go.ChangeMaps

theorem own : ownKnob Tryz.prog.godebug = none := by kernel_rfl

set_option maxRecDepth 100000 in
theorem nil_contract (H : Type) (enc : TypeId × Value → H) (W : World) (base : Nat) (args : Array Value) (ds gs : List (DataW H)) (before : List MemPlace)
    (hval : ∀ (j : Nat) t v, Tryz.f6.params[j]? = some t → args[j]? = some v → Value.okWide Tryz.prog W .any base t v)
    (hW : DataW.Whole enc Tryz.prog Tryz.f6.params.toList Rows.segmentNilSpec.vars false W args.toList ds gs before) (hL : laidMetH Tryz.prog Rows.segmentNilRow.laid W) (hsh : W.ShapedOpen Tryz.prog) :
    Calls Tryz.prog 6 args W fun e W' => ∃ v, e = .returned v ∧ Rows.segmentNilSpec.post enc Tryz.prog Tryz.f6 false true false false W args v W' := by
  have hW' := hW
  obtain ⟨p, q, hA0, hV, rfl, hfz, hnd⟩ := hW
  have hA : DataW.TrodAll enc Tryz.prog W 0 (fun _ => true) true Tryz.f6.params.toList args.toList ds p := hA0
  rw [Tryz.params6] at hA hval
  obtain ⟨v0, vs0, d0, ds0, p0, q0, hargs, rfl, rfl, h0, r0⟩ := trodAll_cons hA
  obtain ⟨v1, vs1, d1, ds1, p1, q1, rfl, rfl, rfl, h1, r1⟩ := trodAll_cons r0
  obtain ⟨v2, vs2, d2, ds2, p2, q2, rfl, rfl, rfl, h2, r2⟩ := trodAll_cons r1
  obtain ⟨rfl, rfl, rfl⟩ := trodAll_nil r2
  obtain rfl : args = #[v0, v1, v2] := by cases args; simp_all
  obtain ⟨rfl, rfl⟩ := trodVars_none hV
  obtain ⟨key, rfl, rfl, rfl, hk⟩ := open_string Tryz.underlying9 (hval 0 9 v0 rfl rfl) h0
  obtain ⟨name, rfl, rfl, rfl, hn⟩ := open_string Tryz.underlying9 (hval 1 9 v1 rfl rfl) h1
  obtain ⟨doc, rfl, rfl, rfl, hd⟩ := open_int Tryz.underlying3 (hval 2 3 v2 rfl rfl) h2
  clear hA0
  simp only [List.append_nil] at hW'
  have walk := law_yes (P := Tryz.prog) (f := 6) (vs := [.str key.data.toList, .str name.data.toList, .int .i64 doc]) (cs := [.string key, .string name, .int .i64 doc]) (W := W)
    (pre_of hsh (pow10_of (by kernel_rfl) ⟨2, by kernel_rfl⟩ hL)) (.cons (.str _) (.cons (.str _) (.cons (.int _ _) .nil))) (ACalls.mono (SegmentNil_ok AH.empty key.data.toList name.data.toList doc) fun v h e => e.1)
  refine walk.mono fun e W' ⟨he, hg⟩ => ?_
  subst he
  have back : ∀ sp : Nat → Bool, DataW.TrodAll enc Tryz.prog W' 0 sp true [9, 9, 3] [.string key, .string name, .int .i64 doc] [.lit (.string key.data.toList), .lit (.string name.data.toList), .lit (.int .i64 doc)] [] := fun sp =>
    trodAll_cons_mk (shut_string Tryz.underlying9 hk) (trodAll_cons_mk (shut_string Tryz.underlying9 hn) (trodAll_cons_mk (shut_int Tryz.underlying3 hd) trodAll_mk0))
  exact ⟨_, rfl, post_of_below (pa := []) (pv := []) hW' (fun _ _ _ => trodAll_cons_mk (shut_bool Tryz.underlying4 _) trodAll_mk0) (fun sp _ => back sp) (fun _ _ => rfl) rfl hg (ok_one (by kernel_rfl) rfl (okWide_bool_mk Tryz.underlying4 _))⟩

def nilArgs : Array Value := #[.string ⟨#[]⟩, .string ⟨#[]⟩, .int .i64 0]
theorem nil_laid (os : Os) : laidMet Tryz.prog Rows.segmentNilRow.laid ((World.laidAll Tryz.prog os Rows.segmentNilRow.laid).forCall (fun _ _ => 0) ⟨#[], nilArgs, []⟩).memory := laidMet_laidAll _ (by kernel_rfl) (by kernel_rfl)
theorem nil_reads (os : Os) {H : Type} (enc : TypeId × Value → H) : ∃ places, DataW.whole enc Tryz.prog ((World.laidAll Tryz.prog os Rows.segmentNilRow.laid).forCall (fun _ _ => 0) ⟨#[], nilArgs, []⟩).memory Tryz.f6.params.toList Rows.segmentNilSpec.vars false nilArgs.toList 8 = some ([.lit (.string []), .lit (.string []), .lit (.int .i64 0)], [], places) :=
  ⟨[], by kernel_rfl⟩

set_option maxRecDepth 100000 in
theorem nil_lifted (os : Os) (started : os.Started) (H : Type) (enc : TypeId × Value → H) (F : Stop.Interp) :
    ReturnsInHanded {} Tryz.checked os 6 .any ((OpenSpec.ofChange Rows.segmentNilSpec).preRow enc Tryz.prog Tryz.f6 Rows.segmentNilRow.domain false Rows.segmentNilRow.laid) (((OpenSpec.ofChange Rows.segmentNilSpec).at F).post enc Tryz.prog Tryz.f6 false true false false) := by
  obtain ⟨places, hx⟩ := nil_reads os enc
  refine returnsInHanded_of_row (C := Tryz.checked) (s := OpenSpec.ofChange Rows.segmentNilSpec) own started (by kernel_rfl) Tryz.func6
    (witness_row_at (enc := enc) (C := Tryz.checked) false (World.laidAll Tryz.prog os Rows.segmentNilRow.laid) nilArgs (World.laidAll_os _ _ _) (by kernel_rfl) (by kernel_rfl) (by kernel_rfl)
      (OpenSpec.preRow_of_cond 8 hx (by kernel_rfl) (fun k hk => by cases hk) (by kernel_rfl) (by rw [MakeChecks.laidMetH_plain _ _ _ (by kernel_rfl)]; exact nil_laid os))) ?_
  intro W base args ds gs before hval hW _ _ _ hL hsh _
  exact nil_contract H enc W base args ds gs before hval hW hL hsh

theorem nil_said : Rows.SegmentNilSaid :=
  OpenClaim.holds_of_cond 6 Tryz.f6 rfl rfl rfl rfl rfl rfl rfl ⟨rfl, rfl, rfl, rfl, rfl⟩ rfl rfl rfl rfl rfl (by kernel_rfl) Tryz.func6 (by kernel_rfl)
    (of_decide_eq_true (by kernel_rfl)) (by unfold Func.isWrapper; first | (rw [if_pos (by decide +kernel)]; kernel_rfl) | (rw [if_neg (by decide +kernel)]; exact ⟨rfl, rfl⟩))
    (fun os started H enc _ F => by rw [OpenClaim.pre_eq_preRow]; exact nil_lifted os started H enc F)

theorem nil_plain (f : FuncId) (fn : Func) (hf : Tryz.pinned.checked.prog.funcNamed "gloss/glosslaw16.SegmentNil" = some f) (hfn : Tryz.pinned.checked.prog.funcs[f]? = some fn) :
    false = Tryz.pinned.checked.prog.looks [] ∧ ∀ (j : Nat) t, fn.params[j]? = some t → Tryz.pinned.checked.prog.wantsStandIn t = false := by
  obtain rfl : f = 6 := Option.some.inj ((show Tryz.prog.funcNamed "gloss/glosslaw16.SegmentNil" = some 6 by kernel_rfl).symm.trans hf) |>.symm
  obtain rfl : fn = Tryz.f6 := (Option.some.inj (Tryz.func6.symm.trans hfn)).symm
  refine ⟨by kernel_rfl, fun j t ht => ?_⟩
  rw [Tryz.params6] at ht
  have : t = 9 ∨ t = 3 := by
    have := Array.mem_of_getElem? ht
    simp at this; omega
  rcases this with rfl | rfl
  · exact (show Tryz.prog.wantsStandIn 9 = false by kernel_rfl)
  · exact (show Tryz.prog.wantsStandIn 3 = false by kernel_rfl)

theorem segmentNil_holds : Rows.SegmentNilCardSaid :=
  Claim7.holds_tied_plain_at .later [] _ _ _ _ nil_said (fun _ h => by cases h) (by kernel_rfl) (fun _ h => by cases h) segmentNil_row_tie rfl ⟨rfl, rfl⟩ (by kernel_rfl) rfl nil_plain (by kernel_rfl)
end Go.Proofs.YtfpkajhmelbbbaaGreatDoor
