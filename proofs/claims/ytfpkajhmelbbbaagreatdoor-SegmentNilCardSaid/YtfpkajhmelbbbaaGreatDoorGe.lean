/- Each operation that leaves memory alone answers one value. No condition. -/
import Derived.Test.YtfpkajhmelbbbaaGreatDoorGd
set_option linter.unusedVariables false
set_option linter.unusedSimpArgs false
namespace Gls
open Go

theorem aPart_det {agg : Option Nat} {e : AV} {off : Nat} {K : AV → Prop} (h : aPart agg e off K) : ∃ v, K v ∧ aPart agg e off (· = v) := by
  unfold aPart at *
  split at h
  · exact ⟨_, h.2, h.1, rfl⟩
  · obtain ⟨v, a, b⟩ := h; exact ⟨v, b, v, a, rfl⟩

theorem aBin_det {op : BinOp} {x y : AV} {K : AV → Prop} (h : aBin op x y K) : ∃ v, K v ∧ aBin op x y (· = v) := by
  unfold aBin at *
  split at h
  · split at h <;> first | exact ⟨_, h, rfl⟩ | exact ⟨_, h.2, h.1, rfl⟩ | exact ⟨_, h.2.2, h.1, h.2.1, rfl⟩ | exact h.elim
  · split at h <;> first | exact ⟨_, h, rfl⟩ | exact ⟨_, h.2, h.1, rfl⟩ | exact h.elim
  · exact h.elim

theorem aUn_det {op : UnOp} {x : AV} {K : AV → Prop} (h : aUn op x K) : ∃ v, K v ∧ aUn op x (· = v) := by
  unfold aUn at *
  split at h <;> first | exact ⟨_, h, rfl⟩ | exact h.elim

theorem aLoad_det {agg : Option Nat} {p : AV} {h : AH} {K : AV → Prop} (H : aLoad agg p h K) : ∃ v, K v ∧ aLoad agg p h (· = v) := by
  unfold aLoad at *
  split at H
  · obtain ⟨es, a, e, b, c⟩ := H
    obtain ⟨v, x, y⟩ := aPart_det c
    exact ⟨v, x, es, a, e, b, y⟩
  · exact aPart_det H
  · exact H.elim

theorem aBound_det {x : Option AV} {d hi : Nat} {K : Nat → Prop} (H : aBound x d hi K) : ∃ v, K v ∧ aBound x d hi (· = v) := by
  unfold aBound at *
  split at H
  · exact ⟨_, H, rfl⟩
  · exact ⟨_, H.2, H.1, rfl⟩
  · exact H.elim

theorem aBound_mono {x : Option AV} {d hi : Nat} {K K' : Nat → Prop} (H : aBound x d hi K) (k : ∀ n, K n → K' n) : aBound x d hi K' := by
  unfold aBound at *
  split at H
  · exact k _ H
  · exact ⟨H.1, k _ H.2⟩
  · exact H.elim

theorem aBounds_det {lo hi : Option AV} {d n : Nat} {K : Nat → Nat → Prop} (H : aBound hi d n fun h => aBound lo 0 h fun l => K h l) :
    ∃ a b, K a b ∧ aBound hi d n (· = a) ∧ aBound lo 0 a (· = b) := by
  obtain ⟨a, x, y⟩ := aBound_det H
  obtain ⟨b, p, q⟩ := aBound_det x
  exact ⟨a, b, p, y, q⟩

theorem aBounds_mk {lo hi : Option AV} {d n a b : Nat} {K : Nat → Nat → Prop} (h1 : aBound hi d n (· = a)) (h2 : aBound lo 0 a (· = b)) (k : K a b) :
    aBound hi d n fun h => aBound lo 0 h fun l => K h l :=
  aBound_mono h1 fun _ e => e ▸ aBound_mono h2 fun _ e' => e' ▸ k

theorem aSliceStr_det {x : AV} {lo hi : Option AV} {K : AV → Prop} (H : aSliceStr x lo hi K) : ∃ v, K v ∧ aSliceStr x lo hi (· = v) := by
  unfold aSliceStr at *
  split at H
  · obtain ⟨a, b, k, h1, h2⟩ := aBounds_det H
    exact ⟨_, k, aBounds_mk h1 h2 rfl⟩
  · exact H.elim

theorem aSliceSl_det {T sz : Nat} {x : AV} {lo hi : Option AV} {K : AV → Prop} (H : aSliceSl T sz x lo hi K) : ∃ v, K v ∧ aSliceSl T sz x lo hi (· = v) := by
  unfold aSliceSl at *
  split at H
  · obtain ⟨a, b, k, h1, h2⟩ := aBounds_det H
    exact ⟨_, k, aBounds_mk h1 h2 rfl⟩
  · obtain ⟨a, b, k, h1, h2⟩ := aBounds_det H.2
    exact ⟨_, k, H.1, aBounds_mk h1 h2 rfl⟩
  · obtain ⟨a, b, k, h1, h2⟩ := aBounds_det H.2
    exact ⟨_, k, H.1, aBounds_mk h1 h2 rfl⟩
  · exact H.elim

theorem aIdxAddrS_det {T sz : Nat} {x i : AV} {K : AV → Prop} (H : aIdxAddrS T sz x i K) : ∃ v, K v ∧ aIdxAddrS T sz x i (· = v) := by
  unfold aIdxAddrS at *
  split at H
  · obtain ⟨a, b, e, c, d⟩ := H; exact ⟨_, d, a, b, e, c, rfl⟩
  · exact ⟨_, H.2.2, H.1, H.2.1, rfl⟩
  · exact H.elim

theorem aIdxAddrA_det {len sz : Nat} {x i : AV} {K : AV → Prop} (H : aIdxAddrA len sz x i K) : ∃ v, K v ∧ aIdxAddrA len sz x i (· = v) := by
  unfold aIdxAddrA at *
  split at H
  · exact ⟨_, H.2, H.1, rfl⟩
  · exact ⟨_, H.2, H.1, rfl⟩
  · exact H.elim

theorem aFieldAddr_det {o : Nat} {x : AV} {K : AV → Prop} (H : aFieldAddr o x K) : ∃ v, K v ∧ aFieldAddr o x (· = v) := by
  unfold aFieldAddr at *
  split at H
  · exact ⟨_, H, rfl⟩
  · exact ⟨_, H, rfl⟩
  · exact H.elim

theorem aIdxStr_det {x i : AV} {K : AV → Prop} (H : aIdxStr x i K) : ∃ v, K v ∧ aIdxStr x i (· = v) := by
  unfold aIdxStr at *
  split at H
  · obtain ⟨a, b, c, d⟩ := H; exact ⟨_, d, a, b, c, rfl⟩
  · exact H.elim

theorem aEnts_det {mp : AV} {h : AH} {K : List (AV × AV) → Prop} (H : aEnts mp h K) : ∃ es, K es ∧ aEnts mp h (· = es) := by
  unfold aEnts at *
  split at H
  · exact ⟨_, H, rfl⟩
  · obtain ⟨es, a, b⟩ := H; exact ⟨_, b, es, a, rfl⟩
  · exact ⟨_, H, rfl⟩
  · exact H.elim

theorem aEnts_mono {mp : AV} {h : AH} {K K' : List (AV × AV) → Prop} (H : aEnts mp h K) (k : ∀ es, K es → K' es) : aEnts mp h K' := by
  unfold aEnts at *
  split at H
  · exact k _ H
  · obtain ⟨es, a, b⟩ := H; exact ⟨es, a, k _ b⟩
  · exact k _ H
  · exact H.elim

theorem aLookup_det {ck : CK} {z : AV} {ok : Bool} {mp k : AV} {h : AH} {K : AV → Prop} (H : aLookup ck z ok mp k h K) : ∃ v, K v ∧ aLookup ck z ok mp k h (· = v) := by
  unfold aLookup at *
  obtain ⟨es, ⟨r, a, b⟩, c⟩ := aEnts_det H
  exact ⟨_, b, aEnts_mono c fun _ e => ⟨r, e ▸ a, rfl⟩⟩

theorem aLenMap_det {mp : AV} {h : AH} {K : AV → Prop} (H : aLenMap mp h K) : ∃ v, K v ∧ aLenMap mp h (· = v) := by
  unfold aLenMap at *
  obtain ⟨es, a, c⟩ := aEnts_det H
  exact ⟨_, a, aEnts_mono c fun _ e => by rw [e]⟩

theorem aEntry_det {it : AV} {h : AH} {K : AV → Prop} (H : aEntry it h K) : ∃ v, K v ∧ aEntry it h (· = v) := by
  unfold aEntry at *
  split at H
  · obtain ⟨a, x, e, y, z⟩ := H; exact ⟨_, z, a, x, e, y, rfl⟩
  · exact H.elim

theorem aExtract_det {x : AV} {i : Nat} {K : AV → Prop} (H : aExtract x i K) : ∃ v, K v ∧ aExtract x i (· = v) := by
  unfold aExtract at *
  split at H
  · obtain ⟨v, a, b⟩ := H; exact ⟨_, b, v, a, rfl⟩
  · exact H.elim

theorem aElems_det {T sz : Nat} {x : AV} {h : AH} {K : List AV → Prop} (H : aElems T sz x h K) : ∃ xs, K xs ∧ aElems T sz x h (· = xs) := by
  unfold aElems at *
  split at H
  · exact ⟨_, H, rfl⟩
  · exact ⟨_, H.2, H.1, rfl⟩
  · obtain ⟨a0, a1, es, a, b, d⟩ := H; exact ⟨_, d, a0, a1, es, a, b, rfl⟩
  · exact ⟨_, H.2, H.1, rfl⟩
  · exact H.elim

theorem aElems_mono {T sz : Nat} {x : AV} {h : AH} {K K' : List AV → Prop} (H : aElems T sz x h K) (k : ∀ xs, K xs → K' xs) : aElems T sz x h K' := by
  unfold aElems at *
  split at H
  · exact k _ H
  · exact ⟨H.1, k _ H.2⟩
  · obtain ⟨a0, a1, es, a, b, d⟩ := H; exact ⟨a0, a1, es, a, b, k _ d⟩
  · exact ⟨H.1, k _ H.2⟩
  · exact H.elim

theorem aLenSl_det {x : AV} {K : AV → Prop} (H : aLenSl x K) : ∃ v, K v ∧ aLenSl x (· = v) := by
  unfold aLenSl at *
  split at H
  · exact ⟨_, H, rfl⟩
  · exact ⟨_, H, rfl⟩
  · exact ⟨_, H, rfl⟩
  · exact H.elim

/-- The value that an operation which leaves memory alone answers. -/
def Ans (ρ : Opd → AV) (h : AH) (op : AOp) (v : AV) : Prop := wpA ρ h (fun v' h' => v' = v ∧ h' = h) op

theorem ans_of {ρ : Opd → AV} {h : AH} {K : AV → AH → Prop} {op : AOp} (hq : op.quiet = true) (H : wpA ρ h K op) : ∃ v, K v h ∧ Ans ρ h op v := by
  unfold Ans
  have fin : ∀ {F : (AV → Prop) → Prop}, (∃ v, K v h ∧ F (· = v)) → (∀ K K' : AV → Prop, (∀ v, K v → K' v) → F K → F K') → ∃ v, K v h ∧ F fun v' => v' = v ∧ h = h :=
    fun ⟨v, a, b⟩ mono => ⟨v, a, mono _ _ (fun _ e => ⟨e, rfl⟩) b⟩
  cases op <;> simp only [AOp.quiet, Bool.false_eq_true] at hq <;> simp only [wpA] at H ⊢
  case mov x => exact ⟨_, H, rfl, trivial⟩
  case pick c a b => split at H <;> first | exact ⟨_, H, rfl, trivial⟩ | exact H.elim
  case build z ps => obtain ⟨k, cs, a, b⟩ := H; exact ⟨_, b, k, cs, a, rfl, trivial⟩
  case load agg a => obtain ⟨v, a, b⟩ := aLoad_det H; exact ⟨v, a, by simpa using b⟩
  case nilchk x => split at H <;> first | exact ⟨_, H, rfl, trivial⟩ | exact ⟨_, H, rfl, trivial⟩ | exact H.elim
  case bin op x y => obtain ⟨v, a, b⟩ := aBin_det H; exact ⟨v, a, by simpa using b⟩
  case eq neg k x y => obtain ⟨b, a, c⟩ := H; exact ⟨_, c, b, a, rfl, trivial⟩
  case un op x => obtain ⟨v, a, b⟩ := aUn_det H; exact ⟨v, a, by simpa using b⟩
  case convInt k x => split at H <;> first | exact ⟨_, H, rfl, trivial⟩ | exact H.elim
  case b2s T x => obtain ⟨xs, ⟨s, a, b⟩, c⟩ := aElems_det H.2; exact ⟨_, b, H.1, aElems_mono c fun _ e => ⟨s, e ▸ a, rfl, trivial⟩⟩
  case same x => split at H <;> first | exact ⟨_, H, rfl, trivial⟩ | exact H.elim
  case mkIface T x => exact ⟨_, H, rfl, trivial⟩
  case mkFunc f a b => exact ⟨_, H, rfl, trivial⟩
  case sliceStr x lo hi => obtain ⟨v, a, b⟩ := aSliceStr_det H; exact ⟨v, a, by simpa using b⟩
  case sliceSl T sz x lo hi => obtain ⟨v, a, b⟩ := aSliceSl_det H; exact ⟨v, a, by simpa using b⟩
  case fieldAddr o x => obtain ⟨v, a, b⟩ := aFieldAddr_det H; exact ⟨v, a, by simpa using b⟩
  case field o agg x => split at H <;> first | (obtain ⟨v, a, b⟩ := aPart_det H; exact ⟨v, a, by simpa using b⟩) | exact H.elim
  case idxAddrS T sz x i => obtain ⟨v, a, b⟩ := aIdxAddrS_det H; exact ⟨v, a, by simpa using b⟩
  case idxAddrA len sz x i => obtain ⟨v, a, b⟩ := aIdxAddrA_det H; exact ⟨v, a, by simpa using b⟩
  case idxStr x i => obtain ⟨v, a, b⟩ := aIdxStr_det H; exact ⟨v, a, by simpa using b⟩
  case idxArr len sz agg x i => split at H <;> first | (obtain ⟨v, a, b⟩ := aPart_det H.2; exact ⟨v, a, H.1, by simpa using b⟩) | exact H.elim
  case lookup ck z ok mp k => obtain ⟨v, a, b⟩ := aLookup_det H; exact ⟨v, a, by simpa using b⟩
  case entry it => obtain ⟨v, a, b⟩ := aEntry_det H; exact ⟨v, a, by simpa using b⟩
  case extract x i => obtain ⟨v, a, b⟩ := aExtract_det H; exact ⟨v, a, by simpa using b⟩
  case lenStr x => split at H <;> first | exact ⟨_, H, rfl, trivial⟩ | exact H.elim
  case lenSl x => obtain ⟨v, a, b⟩ := aLenSl_det H; exact ⟨v, a, by simpa using b⟩
  case lenMap x => obtain ⟨v, a, b⟩ := aLenMap_det H; exact ⟨v, a, by simpa using b⟩
  case lenArr n => exact ⟨_, H, rfl, trivial⟩
  case minmax mx l => split at H <;> first | (obtain ⟨v, a, b⟩ := H; exact ⟨_, b, v, a, rfl, trivial⟩) | exact H.elim

end Gls
