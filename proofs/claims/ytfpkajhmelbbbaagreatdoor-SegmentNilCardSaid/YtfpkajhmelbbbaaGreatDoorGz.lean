/- Contracts: what a call leaves alone; loops; weaker states. No condition. -/
import Derived.Test.YtfpkajhmelbbbaaGreatDoorGy
import Derived.IntWalk
set_option linter.unusedVariables false
set_option linter.unusedSimpArgs false
namespace Gls
open Go
variable {P : Program} {n : Nat}

/-- What was there is as it was. -/
structure Same (h h' : AH) : Prop where
  next : h.next ≤ h'.next
  arr : ∀ t i, i < h.next → h'.arr t i = h.arr t i
  map : ∀ t i, i < h.next → h'.map t i = h.map t i
  itr : ∀ i, i < h.next → h'.itr i = h.itr i

section
variable {h h' h'' : AH}
theorem Same.refl (h : AH) : Same h h := ⟨Nat.le_refl _, fun _ _ _ => rfl, fun _ _ _ => rfl, fun _ _ => rfl⟩
theorem Same.trans (a : Same h h') (b : Same h' h'') : Same h h'' :=
  ⟨Nat.le_trans a.next b.next, fun t i hi => (b.arr t i (Nat.lt_of_lt_of_le hi a.next)).trans (a.arr t i hi), fun t i hi => (b.map t i (Nat.lt_of_lt_of_le hi a.next)).trans (a.map t i hi), fun i hi => (b.itr i (Nat.lt_of_lt_of_le hi a.next)).trans (a.itr i hi)⟩
theorem Same.push (a : Same h h') {T : Nat} {es : List AV} : Same h (h'.push T es) :=
  ⟨Nat.le_succ_of_le a.next, fun t i hi => by rw [arr_push, if_neg fun e => by have := a.next; omega]; exact a.arr t i hi, a.map, a.itr⟩
theorem Same.pushMap (a : Same h h') {T : Nat} {es : List (AV × AV)} : Same h (h'.pushMap T es) :=
  ⟨Nat.le_succ_of_le a.next, a.arr, fun t i hi => by rw [map_pushMap, if_neg fun e => by have := a.next; omega]; exact a.map t i hi, a.itr⟩
theorem Same.pushItr (a : Same h h') {it : AItr} : Same h (h'.pushItr it) :=
  ⟨Nat.le_succ_of_le a.next, a.arr, a.map, fun i hi => by rw [itr_pushItr, if_neg fun e => by have := a.next; omega]; exact a.itr i hi⟩
theorem Same.setArr (a : Same h h') {T j : Nat} {o : AObj} (hj : h.next ≤ j) : Same h (h'.setArr T j o) :=
  ⟨a.next, fun t i hi => by rw [arr_set, if_neg fun e => by omega]; exact a.arr t i hi, a.map, a.itr⟩
theorem Same.setMap (a : Same h h') {T j : Nat} {o : AMap} (hj : h.next ≤ j) : Same h (h'.setMap T j o) :=
  ⟨a.next, a.arr, fun t i hi => by rw [map_setMap, if_neg fun e => by omega]; exact a.map t i hi, a.itr⟩
theorem Same.setItr (a : Same h h') {j : Nat} {o : Option AItr} (hj : h.next ≤ j) : Same h (h'.setItr j o) :=
  ⟨a.next, a.arr, a.map, fun i hi => by rw [itr_setItr, if_neg fun e => by omega]; exact a.itr i hi⟩
theorem Same.bump (a : Same h h') {k : Nat} (hk : h'.next ≤ k) : Same h (h'.bump k) := ⟨Nat.le_trans a.next hk, a.arr, a.map, a.itr⟩
theorem Same.less (a : Same h h') {F : Nat → Bool} (hF : ∀ i, i < h.next → F i = false) : Same h (h'.less F) :=
  ⟨a.next, fun t i hi => by simp only [AH.less, hF i hi]; exact a.arr t i hi, fun t i hi => by simp only [AH.less, hF i hi]; exact a.map t i hi, fun i hi => by simp only [AH.less, hF i hi]; exact a.itr i hi⟩

/-- Is an object's number newer than a memory? -/
def newer (h : AH) (i : Nat) : Bool := decide (h.next ≤ i)
theorem newer_true {i : Nat} : newer h i = true ↔ h.next ≤ i := by simp [newer]

theorem less_newer (wf : h.WF) (a : Same h h') : h'.less (newer h) = h.bump h'.next := by
  unfold AH.less AH.bump
  congr 1
  · funext t i
    by_cases hi : h.next ≤ i
    · rw [if_pos (newer_true.2 hi), wf.arr t i hi]
    · rw [if_neg (by simpa [newer] using hi)]; exact a.arr t i (by omega)
  · funext t i
    by_cases hi : h.next ≤ i
    · rw [if_pos (newer_true.2 hi), wf.map t i hi]
    · rw [if_neg (by simpa [newer] using hi)]; exact a.map t i (by omega)
  · funext i
    by_cases hi : h.next ≤ i
    · rw [if_pos (newer_true.2 hi), wf.itr i hi]
    · rw [if_neg (by simpa [newer] using hi)]; exact a.itr i (by omega)

/-- A call whose new objects are read off, and forgotten. -/
theorem PCalls.of {f : Nat} {vs : List AV} {p : AV} (H : ACalls P f vs h fun v h' => Reads h' (newer h) v p ∧ Same h h') : PCalls P f vs h p := by
  intro m w cs R hv
  refine Calls.mono (H m w cs R hv) ?_
  rintro e w' ⟨m', v, h', c, h1, h2, h3, h4, h5, h6⟩
  refine ⟨m'.freeze h' w' (newer h), p, h.bump h'.next, c, h1.trans (freeze_le h2), ?_, h3, reads_vrel h2 h5 h4, rfl, _, rfl, h6.next⟩
  rw [← less_newer R.wf h6]
  exact freeze_hrel h2

theorem PCalls_fn (hm : P.follows .mixedOrders = true) {f nt : Nat} {c : ACode} {rs : List RV} {vs : List AV} {p : AV} (F : IsFn P f nt c rs) (hn : vs.length ≤ nt) (H : h.WF → xCode P nt c (initEnv vs) h (RetPost rs fun v h' => Reads h' (newer h) v p ∧ Same h h')) : PCalls P f vs h p :=
  .of (ACalls_fn hm F hn H)

/-- Objects are read off in the middle of a function. -/
theorem Cov.freeze {σ σ' : Env} {F : Nat → Bool} (H : ∀ t, Reads h F (σ t) (σ' t)) : Cov P n σ h σ' (h.less F) := fun m a w T R =>
  ⟨m.freeze h w F, freeze_le R, ⟨T.defers, T.size, fun t => reads_vrel R (H t) (T.vals t)⟩, freeze_hrel R⟩
end

theorem ACalls.use {f : Nat} {vs : List AV} {h : AH} {Q Q' : AV → AH → Prop} (H : ACalls P f vs h Q) (k : ∀ v h', Q v h' → Q' v h') : xCalls P f vs h Q' := H.mono k

def loopK (I : Nat → Env → AH → Prop) (k : Nat) (Q : Exit → Env → AH → Prop) (e : Exit) (σ : Env) (h : AH) : Prop := match e with
  | .normal => ∃ k', k' < k ∧ I k' σ h
  | e => Q e σ h
section
variable {I : Nat → Env → AH → Prop} {k i : Nat} {Q : Exit → Env → AH → Prop} {σ σ' : Env} {h h' : AH} {c : ACode}
/-- The loop's head is met again, with a smaller number. -/
def again (I : Nat → Env → AH → Prop) (k : Nat) (σ : Env) (h : AH) (f : Frz I := .mk) : Prop := ∃ k', k' < k ∧ I k' σ h
theorem again_of (k' : Nat) (hk : k' < k) (hI : I k' σ h) : again I k σ h := ⟨k', hk, hI⟩
@[simp ↓] theorem loopK_normal : loopK I k Q .normal σ h = again I k σ h := rfl
@[simp ↓] theorem loopK_ret : loopK I k Q .ret σ h = Q .ret σ h := rfl
@[simp ↓] theorem loopK_exit : loopK I k Q (.exit i) σ h = Q (.exit i) σ h := rfl

theorem xLoop (hm : P.follows .mixedOrders = true) (I : Nat → Env → AH → Prop) (k₀ : Nat) (hI : I k₀ σ h) (round : ∀ k σ h, I k σ h → xCode P n c σ h (loopK I k Q)) : xCode P n (.loop c) σ h Q := by
  refine AWP_loop I (Cov.refl σ h) hI fun k σ h hi => ?_
  refine AWP.mono (wpCode_sound hm c (round k σ h hi)) fun e σ' h' hq => ?_
  cases e with
  | normal => obtain ⟨k', a, b⟩ := hq; exact ⟨k', a, σ', h', Cov.refl _ _, b⟩
  | _ => exact hq

/-- A weaker state ahead of a code. -/
theorem xCov (hm : P.follows .mixedOrders = true) (k : Cov P n σ h σ' h') (H : xCode P n c σ' h' Q) : AWP P n c σ h Q := AWP_cov k (wpCode_sound hm c H)

/-- A loop whose state is weakened at the head of each round. -/
theorem xLoopC (hm : P.follows .mixedOrders = true) (I : Nat → Env → AH → Prop) (k₀ : Nat) {σ₀ : Env} {h₀ : AH} (hc : Cov P n σ h σ₀ h₀) (hI : I k₀ σ₀ h₀) (round : ∀ k σ h, I k σ h → xCode P n c σ h (loopK (fun k' σ h => ∃ σ' h', Cov P n σ h σ' h' ∧ I k' σ' h') k Q)) : xCode P n (.loop c) σ h Q := by
  refine AWP_loop I hc hI fun k σ h hi => ?_
  refine AWP.mono (wpCode_sound hm c (round k σ h hi)) fun e σ' h' hq => ?_
  cases e with
  | normal => obtain ⟨k', a, σ2, h2, b, d⟩ := hq; exact ⟨k', a, σ2, h2, b, d⟩
  | _ => exact hq

/-- The same with a weaker aim. -/
theorem xMono (hm : P.follows .mixedOrders = true) {Q' : Exit → Env → AH → Prop} : ∀ {c : ACode} {σ : Env} {h : AH}, xCode P n c σ h Q → (∀ e σ h, Q e σ h → Q' e σ h) → AWP P n c σ h Q' := fun H k => AWP.mono (wpCode_sound hm _ H) k
end

theorem w64 {x : Int} (h1 : -9223372036854775808 ≤ x) (h2 : x ≤ 9223372036854775807) : IntKind.i64.wrap x = x := IntWalk.i64_in x ⟨h1, h2⟩
theorem wu64 {x : Int} (h1 : 0 ≤ x) (h2 : x ≤ 18446744073709551615) : IntKind.u64.wrap x = x := IntWalk.u64_in x ⟨h1, h2⟩
theorem wu8 {x : Int} (h1 : 0 ≤ x) (h2 : x ≤ 255) : IntKind.u8.wrap x = x := IntWalk.u8_in x ⟨h1, h2⟩
theorem wu32 {x : Int} (h1 : 0 ≤ x) (h2 : x ≤ 4294967295) : IntKind.u32.wrap x = x := IntWalk.u32_in x ⟨h1, h2⟩
attribute [simp] w64 wu64 wu8 wu32
@[simp] theorem bits_i64 : IntKind.i64.bits = 64 := rfl
@[simp] theorem bits_u64 : IntKind.u64.bits = 64 := rfl
@[simp] theorem bits_u32 : IntKind.u32.bits = 32 := rfl
@[simp] theorem bits_u8 : IntKind.u8.bits = 8 := rfl
attribute [simp] Int.tdiv_eq_ediv_of_nonneg Int.tmod_eq_emod_of_nonneg
/-- What stands behind so many parts of a code. -/
def sndN : Nat → ACode → ACode
  | n + 1, .seq _ b => sndN n b
  | _, c => c
end Gls
