/- The runner's operations are sound. No condition. -/
import Derived.Test.YtfpkajhmelbbbaaGreatDoorEa
set_option linter.unusedVariables false
set_option linter.unusedSimpArgs false
namespace Gls
open Go

section
variable {α : Type} {G : α → Prop} {h : CH} {k : AV → Rs α} {k' : AV → Prop} {K : AV → CH → Rs α} {K' : AV → AH → Prop}

theorem arr_abs {t i : Nat} {es : List AV} (e : h.arr t i = some es) : h.abs.arr t i = some es := e
theorem map_abs {t i : Nat} {es : List (AV × AV)} (e : h.map t i = some es) : h.abs.map t i = some es := e

theorem eBin_sound {op : BinOp} {x y : AV} (H : Good G (eBin op x y k)) (hk : ∀ v, Good G (k v) → k' v) : aBin op x y k' := by
  unfold eBin at H
  unfold aBin
  split at H
  · rename_i kd a kd' b
    have e1 : ∀ m : Nat, ((2 ^ m : Nat) : Int) = (2 : Int) ^ m := fun m => by simp
    cases op <;> simp only [gd_iff, decide_eq_true_eq, kInt_eq, int_eq, e1] at H ⊢
    all_goals first
      | exact ⟨H.1, hk _ H.2⟩
      | exact ⟨H.1.1, H.1.2, hk _ H.2⟩
  · cases op <;> simp only [gd_iff, decide_eq_true_eq] at H ⊢
    all_goals first
      | exact ⟨H.1, hk _ H.2⟩
      | exact hk _ H
      | exact not_good H
  · exact not_good H

theorem eUn_sound {op : UnOp} {x : AV} (H : Good G (eUn op x k)) (hk : ∀ v, Good G (k v) → k' v) : aUn op x k' := by
  unfold eUn at H
  split at H
  · exact hk _ H
  · rw [kInt_eq] at H; exact hk _ H
  · rw [kInt_eq] at H; exact hk _ H
  · exact not_good H

theorem ePart_sound {agg : Option Nat} {e : AV} {off : Nat} (H : Good G (ePart agg e off k)) (hk : ∀ v, Good G (k v) → k' v) : aPart agg e off k' := by
  unfold ePart at H
  unfold aPart
  split at H
  · obtain ⟨h1, h2⟩ := gd_iff.1 H; exact ⟨of_decide_eq_true h1, hk _ h2⟩
  · obtain ⟨v, h1, h2⟩ := ob_iff.1 H; exact ⟨v, h1, hk _ h2⟩

theorem eLoad_sound {agg : Option Nat} {p : AV} (H : Good G (eLoad agg p h k)) (hk : ∀ v, Good G (k v) → k' v) : aLoad agg p h.abs k' := by
  unfold eLoad at H
  split at H
  · obtain ⟨es, h1, H⟩ := ob_iff.1 H
    obtain ⟨e, h2, H⟩ := ob_iff.1 H
    exact ⟨es, h1, e, h2, ePart_sound H hk⟩
  · exact ePart_sound H hk
  · exact not_good H

theorem eStore_sound {sz : Nat} {p v : AV} {k : CH → Rs α} {k' : AH → Prop} (H : Good G (eStore sz p v h k)) (hk : ∀ h, Good G (k h) → k' h.abs) : aStore sz p v h.abs k' := by
  unfold eStore at H
  split at H
  · obtain ⟨es, h1, H⟩ := ob_iff.1 H
    obtain ⟨e, h2, H⟩ := ob_iff.1 H
    obtain ⟨h3, H⟩ := gd_iff.1 H
    refine ⟨es, h1, e, h2, of_decide_eq_true h3, ?_⟩
    rw [← CH.abs_setArr h1]; exact hk _ H
  · exact not_good H

theorem eBound_sound {x : Option AV} {d hi : Nat} {k : Nat → Rs α} {k' : Nat → Prop} (H : Good G (eBound x d hi k)) (hk : ∀ v, Good G (k v) → k' v) : aBound x d hi k' := by
  unfold eBound at H
  split at H
  · exact hk _ H
  · obtain ⟨h1, h2⟩ := gd_iff.1 H; exact ⟨of_decide_eq_true h1, hk _ h2⟩
  · exact not_good H

theorem eSliceStr_sound {x : AV} {lo hi : Option AV} (H : Good G (eSliceStr x lo hi k)) (hk : ∀ v, Good G (k v) → k' v) : aSliceStr x lo hi k' := by
  unfold eSliceStr at H
  split at H
  · exact eBound_sound H fun _ H => eBound_sound H fun _ H => hk _ H
  · exact not_good H
theorem eSliceSl_sound {T sz : Nat} {x : AV} {lo hi : Option AV} (H : Good G (eSliceSl T sz x lo hi k)) (hk : ∀ v, Good G (k v) → k' v) : aSliceSl T sz x lo hi k' := by
  unfold eSliceSl at H
  split at H
  · exact eBound_sound H fun _ H => eBound_sound H fun _ H => hk _ H
  · obtain ⟨h1, H⟩ := gd_iff.1 H
    exact ⟨of_decide_eq_true h1, eBound_sound H fun _ H => eBound_sound H fun _ H => hk _ H⟩
  · obtain ⟨h1, H⟩ := gd_iff.1 H
    exact ⟨of_decide_eq_true h1, eBound_sound H fun _ H => eBound_sound H fun _ H => hk _ H⟩
  · exact not_good H
theorem eIdxAddrS_sound {T sz : Nat} {x i : AV} (H : Good G (eIdxAddrS T sz x i k)) (hk : ∀ v, Good G (k v) → k' v) : aIdxAddrS T sz x i k' := by
  unfold eIdxAddrS at H
  split at H
  · obtain ⟨h1, H⟩ := gd_iff.1 H
    obtain ⟨e, h2, H⟩ := ob_iff.1 H
    have := of_decide_eq_true h1
    exact ⟨this.1, this.2, e, h2, hk _ H⟩
  · obtain ⟨h1, H⟩ := gd_iff.1 H
    have := of_decide_eq_true h1
    exact ⟨this.1, this.2, hk _ H⟩
  · exact not_good H
theorem eIdxAddrA_sound {len sz : Nat} {x i : AV} (H : Good G (eIdxAddrA len sz x i k)) (hk : ∀ v, Good G (k v) → k' v) : aIdxAddrA len sz x i k' := by
  unfold eIdxAddrA at H
  split at H
  · obtain ⟨h1, H⟩ := gd_iff.1 H; exact ⟨of_decide_eq_true h1, hk _ H⟩
  · obtain ⟨h1, H⟩ := gd_iff.1 H; exact ⟨of_decide_eq_true h1, hk _ H⟩
  · exact not_good H
theorem eFieldAddr_sound {o : Nat} {x : AV} (H : Good G (eFieldAddr o x k)) (hk : ∀ v, Good G (k v) → k' v) : aFieldAddr o x k' := by
  unfold eFieldAddr at H
  split at H
  · exact hk _ H
  · exact hk _ H
  · exact not_good H
theorem eIdxStr_sound {x i : AV} (H : Good G (eIdxStr x i k)) (hk : ∀ v, Good G (k v) → k' v) : aIdxStr x i k' := by
  unfold eIdxStr at H
  split at H
  · obtain ⟨h1, H⟩ := gd_iff.1 H
    obtain ⟨e, h2, H⟩ := ob_iff.1 H
    rw [CH.num_eq] at H
    exact ⟨of_decide_eq_true h1, e, h2, hk _ H⟩
  · exact not_good H
theorem eEnts_sound {m : AV} {k : List (AV × AV) → Rs α} {k' : List (AV × AV) → Prop} (H : Good G (eEnts m h k)) (hk : ∀ v, Good G (k v) → k' v) : aEnts m h.abs k' := by
  unfold eEnts at H
  split at H
  · exact hk _ H
  · obtain ⟨es, h1, H⟩ := ob_iff.1 H; exact ⟨es, h1, hk _ H⟩
  · exact hk _ H
  · exact not_good H
theorem eLookup_sound {ck : CK} {z m x : AV} {ok : Bool} (H : Good G (eLookup ck z ok m x h k)) (hk : ∀ v, Good G (k v) → k' v) : aLookup ck z ok m x h.abs k' :=
  eEnts_sound H fun es H => by
    obtain ⟨r, h1, H⟩ := ob_iff.1 H
    exact ⟨r, h1, hk _ H⟩
theorem eMapUpdate_sound {ck : CK} {m x v : AV} {k : CH → Rs α} {k' : AH → Prop} (H : Good G (eMapUpdate ck m x v h k)) (hk : ∀ h, Good G (k h) → k' h.abs) : aMapUpdate ck m x v h.abs k' := by
  unfold eMapUpdate at H
  split at H
  · obtain ⟨h1, H⟩ := gd_iff.1 H
    obtain ⟨es, h2, H⟩ := ob_iff.1 H
    obtain ⟨es', h3, H⟩ := ob_iff.1 H
    refine ⟨CH.noItr_abs h1, es, h2, es', h3, ?_⟩
    rw [← CH.abs_setMap h2]; exact hk _ H
  · exact not_good H
theorem eDelete_sound {ck : CK} {m x : AV} {k : CH → Rs α} {k' : AH → Prop} (H : Good G (eDelete ck m x h k)) (hk : ∀ h, Good G (k h) → k' h.abs) : aDelete ck m x h.abs k' := by
  unfold eDelete at H
  split at H
  · exact hk _ H
  · obtain ⟨h1, H⟩ := gd_iff.1 H
    obtain ⟨es, h2, H⟩ := ob_iff.1 H
    obtain ⟨es', h3, H⟩ := ob_iff.1 H
    refine ⟨CH.noItr_abs h1, es, h2, es', h3, ?_⟩
    rw [← CH.abs_setMap h2]; exact hk _ H
  · exact not_good H
theorem eRange_sound {m : AV} (H : Good G (eRange m h K)) (hk : ∀ v h, Good G (K v h) → K' v h.abs) : aRange m h.abs K' :=
  eEnts_sound H fun es H => by
    obtain ⟨h', h1, h2⟩ := CH.pushItr_abs H
    rw [← h2]; exact hk _ _ h1
theorem eEach_sound {f : List (AV × AV) → AV × AV → Rs α} : ∀ {l pre : List (AV × AV)}, Good G (eEach f pre l) → ∀ j e, l[j]? = some e → Good G (f ((pre ++ l).eraseIdx (pre.length + j)) e) := by
  intro l
  induction l with
  | nil => intro pre H j e hj; simp at hj
  | cons a l ih =>
    intro pre H j e hj
    obtain ⟨h1, h2⟩ := both_good (show Good G (both (f (pre ++ l) a) (eEach f (pre ++ [a]) l)) from H)
    cases j with
    | zero =>
      simp at hj; subst hj
      have : (pre ++ a :: l).eraseIdx (pre.length + 0) = pre ++ l := by rw [List.eraseIdx_append_of_length_le (by omega)]; simp
      rw [this]; exact h1
    | succ j =>
      have := ih h2 j e (by simpa using hj)
      have e1 : (pre ++ [a] ++ l) = pre ++ a :: l := by simp
      rw [e1] at this
      have e2 : (pre ++ [a]).length + j = pre.length + (j + 1) := by simp; omega
      rw [e2] at this; exact this
theorem eNext_sound {it : AV} (H : Good G (eNext it h K)) (hk : ∀ v h, Good G (K v h) → K' v h.abs) : aNext it h.abs K' := by
  unfold eNext at H
  split at H
  · rename_i i
    obtain ⟨a, h1, H⟩ := ob_iff.1 H
    refine ⟨a, h1, fun hr => ?_, fun j e hj => ?_⟩
    · rw [hr] at H; exact hk _ _ H
    · split at H
      · rename_i hr; rw [hr] at hj; simp at hj
      · rename_i e0 l hr
        rw [hr] at hj ⊢
        have := eEach_sound H j e hj
        simp only [List.nil_append, List.length_nil, Nat.zero_add] at this
        rw [← CH.abs_setItr]; exact hk _ _ this
  · exact not_good H
theorem eEntry_sound {it : AV} (H : Good G (eEntry it h k)) (hk : ∀ v, Good G (k v) → k' v) : aEntry it h.abs k' := by
  unfold eEntry at H
  split at H
  · obtain ⟨a, h1, H⟩ := ob_iff.1 H
    obtain ⟨e, h2, H⟩ := ob_iff.1 H
    exact ⟨a, h1, e, h2, hk _ H⟩
  · exact not_good H
theorem eExtract_sound {x : AV} {i : Nat} (H : Good G (eExtract x i k)) (hk : ∀ v, Good G (k v) → k' v) : aExtract x i k' := by
  unfold eExtract at H
  split at H
  · obtain ⟨e, h2, H⟩ := ob_iff.1 H; exact ⟨e, h2, hk _ H⟩
  · exact not_good H
theorem eElems_sound {T sz : Nat} {x : AV} {k : List AV → Rs α} {k' : List AV → Prop} (H : Good G (eElems T sz x h k)) (hk : ∀ v, Good G (k v) → k' v) : aElems T sz x h.abs k' := by
  unfold eElems at H
  split at H
  · exact hk _ H
  · obtain ⟨h1, H⟩ := gd_iff.1 H; exact ⟨of_decide_eq_true h1, hk _ H⟩
  · obtain ⟨h1, H⟩ := gd_iff.1 H
    obtain ⟨es, h2, H⟩ := ob_iff.1 H
    obtain ⟨h3, H⟩ := gd_iff.1 H
    have := of_decide_eq_true h1
    exact ⟨this.1, this.2, es, h2, of_decide_eq_true h3, hk _ H⟩
  · obtain ⟨h1, H⟩ := gd_iff.1 H; exact ⟨of_decide_eq_true h1, hk _ H⟩
  · exact not_good H
theorem eLenSl_sound {x : AV} (H : Good G (eLenSl x k)) (hk : ∀ v, Good G (k v) → k' v) : aLenSl x k' := by
  unfold eLenSl at H
  split at H
  · exact hk _ H
  · rw [CH.num_eq] at H; exact hk _ H
  · exact hk _ H
  · exact not_good H
theorem eAppend_sound {T sz bytes : Nat} {s x : AV} (H : Good G (eAppend T sz bytes s x h K)) (hk : ∀ v h, Good G (K v h) → K' v h.abs) : aAppend T sz bytes s x h.abs K' :=
  eElems_sound H fun xs H => by
    obtain ⟨h1, H⟩ := gd_iff.1 H
    refine ⟨of_decide_eq_true h1, ?_⟩
    split at H
    · obtain ⟨h2, H⟩ := gd_iff.1 H
      obtain ⟨h', h3, h4⟩ := CH.push_abs H
      refine ⟨of_decide_eq_true h2, ?_⟩
      rw [← h4]; exact hk _ _ h3
    · obtain ⟨h2, H⟩ := gd_iff.1 H
      obtain ⟨es, h3, H⟩ := ob_iff.1 H
      obtain ⟨h4, H⟩ := gd_iff.1 H
      have := of_decide_eq_true h2
      refine ⟨this.1, this.2, es, h3, of_decide_eq_true h4, ?_⟩
      split at H
      · rename_i hc
        rw [if_pos hc, ← CH.abs_setArr h3]; exact hk _ _ H
      · rename_i hc
        obtain ⟨h5, H⟩ := gd_iff.1 H
        rw [CH.num_eq] at H
        obtain ⟨h', h6, h7⟩ := CH.push_abs H
        rw [if_neg hc]
        refine ⟨of_decide_eq_true h5, ?_⟩
        rw [CH.abs_delArr h3] at h7
        rw [← h7]; exact hk _ _ h6
    · exact not_good H
theorem eCopy_sound {T sz : Nat} {d s : AV} (H : Good G (eCopy T sz d s h K)) (hk : ∀ v h, Good G (K v h) → K' v h.abs) : aCopy T sz d s h.abs K' :=
  eElems_sound H fun xs H => by
    obtain ⟨h1, H⟩ := gd_iff.1 H
    refine ⟨of_decide_eq_true h1, ?_⟩
    split at H
    · exact hk _ _ H
    · obtain ⟨h2, H⟩ := gd_iff.1 H
      obtain ⟨es, h3, H⟩ := ob_iff.1 H
      obtain ⟨h4, H⟩ := gd_iff.1 H
      have := of_decide_eq_true h2
      refine ⟨this.1, this.2, es, h3, of_decide_eq_true h4, ?_⟩
      rw [← CH.abs_setArr h3]; exact hk _ _ H
    · exact not_good H
theorem eMakeSlice_sound {T sz bytes : Nat} {z l c : AV} (H : Good G (eMakeSlice T sz bytes z l c h K)) (hk : ∀ v h, Good G (K v h) → K' v h.abs) : aMakeSlice T sz bytes z l c h.abs K' := by
  unfold eMakeSlice at H
  split at H
  · obtain ⟨h1, H⟩ := gd_iff.1 H
    obtain ⟨h', h3, h4⟩ := CH.push_abs H
    have := of_decide_eq_true h1
    refine ⟨this.1, this.2, ?_⟩
    rw [← h4]; exact hk _ _ h3
  · exact not_good H

theorem eA_sound {ρ : Opd → AV} {op : AOp} (H : Good G (eA ρ h K op)) (hk : ∀ v h, Good G (K v h) → K' v h.abs) : wpA ρ h.abs K' op := by
  have pushed : ∀ {T : Nat} {es : List AV} {v : AV}, Good G (h.push T es (K v)) → K' v (h.abs.push T es) := fun e => by
    obtain ⟨h', h1, h2⟩ := CH.push_abs e
    rw [← h2]; exact hk _ _ h1
  cases op with
  | mov x => exact hk _ _ H
  | pick c a b =>
    simp only [eA] at H; simp only [wpA]
    split at H
    · rename_i t ht; rw [ht]; exact hk _ _ H
    · exact not_good H
  | alloc T sz z => obtain ⟨h1, H⟩ := gd_iff.1 H; exact ⟨of_decide_eq_true h1, pushed H⟩
  | box T sz x => obtain ⟨h1, H⟩ := gd_iff.1 H; exact ⟨of_decide_eq_true h1, pushed H⟩
  | build z ps =>
    obtain ⟨h1, H⟩ := gd_iff.1 H
    obtain ⟨cs, h2, H⟩ := ob_iff.1 H
    exact ⟨List.all_eq_true.1 h1, cs, h2, hk _ _ H⟩
  | mkSlice T sz len z ps =>
    obtain ⟨h1, H⟩ := gd_iff.1 H
    obtain ⟨cs, h2, H⟩ := ob_iff.1 H
    obtain ⟨h3, H⟩ := gd_iff.1 H
    rw [Bool.and_eq_true] at h1
    have := of_decide_eq_true h1.1
    exact ⟨⟨this.1, this.2, List.all_eq_true.1 h1.2⟩, cs, h2, List.all_eq_true.1 h3, pushed H⟩
  | load agg a => simp only [eA] at H; simp only [wpA]; exact eLoad_sound H fun _ H => hk _ _ H
  | store sz a x => simp only [eA] at H; simp only [wpA]; exact eStore_sound H fun _ H => hk _ _ H
  | nilchk x =>
    simp only [eA] at H; simp only [wpA]
    split at H
    · rename_i r hr; rw [hr]; exact hk _ _ H
    · rename_i r o hr; rw [hr]; exact hk _ _ H
    · exact not_good H
  | bin op x y => simp only [eA] at H; simp only [wpA]; exact eBin_sound H fun _ H => hk _ _ H
  | eq neg k x y =>
    obtain ⟨b, h2, H⟩ := ob_iff.1 H
    exact ⟨b, h2, hk _ _ H⟩
  | un op x => simp only [eA] at H; simp only [wpA]; exact eUn_sound H fun _ H => hk _ _ H
  | convInt k x =>
    simp only [eA] at H; simp only [wpA]
    split at H
    · rename_i r n hr; rw [hr]; rw [kInt_eq] at H; exact hk _ _ H
    · exact not_good H
  | s2b T x =>
    simp only [eA] at H; simp only [wpA]
    split at H
    · rename_i s hr; rw [hr]; exact pushed H
    · exact not_good H
  | b2s T x =>
    obtain ⟨h1, H⟩ := gd_iff.1 H
    exact ⟨h1, eElems_sound H fun xs H => by
      obtain ⟨s, h2, H⟩ := ob_iff.1 H
      exact ⟨s, h2, hk _ _ H⟩⟩
  | same x =>
    simp only [eA] at H; simp only [wpA]
    split at H
    · rename_i s hr; rw [hr]; exact hk _ _ H
    · exact not_good H
  | mkIface T x => exact hk _ _ H
  | mkFunc f a b => exact hk _ _ H
  | mkMap T =>
    obtain ⟨h', h1, h2⟩ := CH.pushMap_abs H
    simp only [wpA]
    rw [← h2]; exact hk _ _ h1
  | makeSlice T sz bytes z l c => exact eMakeSlice_sound H hk
  | sliceStr x lo hi => simp only [eA] at H; simp only [wpA]; exact eSliceStr_sound H fun _ H => hk _ _ H
  | sliceSl T sz x lo hi => simp only [eA] at H; simp only [wpA]; exact eSliceSl_sound H fun _ H => hk _ _ H
  | fieldAddr o x => simp only [eA] at H; simp only [wpA]; exact eFieldAddr_sound H fun _ H => hk _ _ H
  | field o agg x =>
    simp only [eA] at H; simp only [wpA]
    split at H
    · rename_i s hr; rw [hr]; exact ePart_sound H fun _ H => hk _ _ H
    · exact not_good H
  | idxAddrS T sz x i => simp only [eA] at H; simp only [wpA]; exact eIdxAddrS_sound H fun _ H => hk _ _ H
  | idxAddrA len sz x i => simp only [eA] at H; simp only [wpA]; exact eIdxAddrA_sound H fun _ H => hk _ _ H
  | idxStr x i => simp only [eA] at H; simp only [wpA]; exact eIdxStr_sound H fun _ H => hk _ _ H
  | idxArr len sz agg x i =>
    simp only [eA] at H; simp only [wpA]
    split at H
    · rename_i cs kd i' h1 h2
      rw [h1, h2]
      obtain ⟨h3, H⟩ := gd_iff.1 H
      exact ⟨of_decide_eq_true h3, ePart_sound H fun _ H => hk _ _ H⟩
    · exact not_good H
  | lookup ck z ok m x => simp only [eA] at H; simp only [wpA]; exact eLookup_sound H fun _ H => hk _ _ H
  | mapUpdate ck m x v => simp only [eA] at H; simp only [wpA]; exact eMapUpdate_sound H fun _ H => hk _ _ H
  | range m => exact eRange_sound H hk
  | next it => exact eNext_sound H hk
  | entry it => simp only [eA] at H; simp only [wpA]; exact eEntry_sound H fun _ H => hk _ _ H
  | extract x i => simp only [eA] at H; simp only [wpA]; exact eExtract_sound H fun _ H => hk _ _ H
  | lenStr x =>
    simp only [eA] at H; simp only [wpA]
    split at H
    · rename_i s hr; rw [hr]; rw [CH.num_eq] at H; exact hk _ _ H
    · exact not_good H
  | lenSl x => simp only [eA] at H; simp only [wpA]; exact eLenSl_sound H fun _ H => hk _ _ H
  | lenMap x => simp only [eA] at H; simp only [wpA]; exact eEnts_sound H fun _ H => hk _ _ H
  | lenArr n => exact hk _ _ H
  | append T sz bytes s x => exact eAppend_sound H hk
  | copy T sz d s => exact eCopy_sound H hk
  | delete ck m x => simp only [eA] at H; simp only [wpA]; exact eDelete_sound H fun _ H => hk _ _ H
  | minmax mx l =>
    simp only [eA] at H; simp only [wpA]
    split at H
    · rename_i x r hr
      obtain ⟨v, h2, H⟩ := ob_iff.1 H
      rw [hr]
      exact ⟨v, h2, hk _ _ H⟩
    · exact not_good H
end
end Gls
