/- The program logic over the view: branches, blocks, loops, functions. No condition. -/
import Derived.Test.YtfpkajhmelbbbaaGreatDoorGv
set_option linter.unusedVariables false
set_option linter.unusedSimpArgs false
namespace Gls
open Go
variable {P : Program} {n : Nat}

/-- A code's condition, in the view. -/
def AWP (P : Program) (n : Nat) (c : ACode) (σ : Env) (h : AH) (Q : Exit → Env → AH → Prop) : Prop :=
  ∀ code, cCode P n code = some c → ∀ (m : Emb) (a : Act) (w : World), TRel n m σ a → HRel P m h w → code.wp P (LiftE P n m Q) a w

theorem AWP.mono {c : ACode} {σ : Env} {h : AH} {Q Q' : Exit → Env → AH → Prop} (H : AWP P n c σ h Q) (k : ∀ e σ h, Q e σ h → Q' e σ h) : AWP P n c σ h Q' :=
  fun code hc m a w T R => wp_mono (H code hc m a w T R) fun e a w hq => by
    obtain ⟨m', σ', h', a1, a2, a3, a4⟩ := hq
    exact ⟨m', σ', h', a1, a2, a3, k _ _ _ a4⟩

/-- What a code does, worked out up to loops and drawn regions. -/
def wpCode (P : Program) (n : Nat) : ACode → Env → AH → (Exit → Env → AH → Prop) → Prop
  | .skip, σ, h, Q => Q .normal σ h
  | .ops l, σ, h, Q => wpOpsA P l σ h (Q .normal)
  | .draw p, σ, h, Q => wpPlan P p σ h (Q .normal)
  | .seq a b, σ, h, Q => wpCode P n a σ h fun e σ' h' => match e with
    | .normal => wpCode P n b σ' h' Q
    | e => Q e σ' h'
  | .cond c x y, σ, h, Q => match ev σ c with
    | .bool b => (b = true → wpCode P n x σ h Q) ∧ (b = false → wpCode P n y σ h Q)
    | _ => False
  | .block id c, σ, h, Q => wpCode P n c σ h fun e σ' h' => match e with
    | .exit i => if i = id then Q .normal σ' h' else Q (.exit i) σ' h'
    | e => Q e σ' h'
  | .loop c, σ, h, Q => AWP P n (.loop c) σ h Q
  | .exit id, σ, h, Q => Q (.exit id) σ h
  | .ret, σ, h, Q => Q .ret σ h

theorem cCode_ops {code : Code} {l : List AOper} (h : cCode P n code = some (.ops l)) : ∃ id ops, code = .region id ops false ∧ cOpers P n ops.toList ops.toList = some l := by
  unfold cCode at h
  split at h <;> simp only [Option.bind_eq_bind, Option.bind_eq_some_iff, Option.map_eq_some_iff, Option.some.injEq, reduceCtorEq, and_false, exists_false, ACode.ops.injEq] at h
  · rename_i id ops
    obtain ⟨l', h1, rfl⟩ := h
    exact ⟨id, ops, rfl, h1⟩
theorem cCode_draw {code : Code} {p : Plan} (h : cCode P n code = some (.draw p)) : ∃ id ops l, code = .region id ops true ∧ cOpers P n ops.toList ops.toList = some l ∧ planOf l (ops.toList.map cPre) = some p := by
  unfold cCode at h
  split at h <;> simp only [Option.bind_eq_bind, Option.bind_eq_some_iff, Option.map_eq_some_iff, Option.some.injEq, reduceCtorEq, and_false, exists_false, ACode.draw.injEq] at h
  · rename_i id ops
    obtain ⟨p', h1, h2⟩ := h
    first
      | (obtain ⟨l', h3, h4⟩ := h1; subst h2; exact ⟨id, ops, l', rfl, h3, h4⟩)
      | (obtain ⟨p2, h3, h4⟩ := h2; subst h4; exact ⟨id, ops, p', rfl, h1, h3⟩)
theorem cCode_skip {code : Code} (h : cCode P n code = some .skip) : code = .skip := by
  unfold cCode at h
  split at h <;> simp only [Option.bind_eq_bind, Option.bind_eq_some_iff, Option.map_eq_some_iff, Option.some.injEq, reduceCtorEq, and_false, exists_false] at h
  rfl
theorem cCode_ret {code : Code} (h : cCode P n code = some .ret) : code = .ret := by
  unfold cCode at h
  split at h <;> simp only [Option.bind_eq_bind, Option.bind_eq_some_iff, Option.map_eq_some_iff, Option.some.injEq, reduceCtorEq, and_false, exists_false] at h
  rfl
theorem cCode_exit {code : Code} {id : Nat} (h : cCode P n code = some (.exit id)) : code = .exit id := by
  unfold cCode at h
  split at h <;> simp only [Option.bind_eq_bind, Option.bind_eq_some_iff, Option.map_eq_some_iff, Option.some.injEq, reduceCtorEq, and_false, exists_false, ACode.exit.injEq] at h
  subst h; rfl
theorem cCode_seq {code : Code} {a b : ACode} (h : cCode P n code = some (.seq a b)) : ∃ x y, code = .seq x y ∧ cCode P n x = some a ∧ cCode P n y = some b := by
  unfold cCode at h
  split at h <;> simp only [Option.bind_eq_bind, Option.bind_eq_some_iff, Option.map_eq_some_iff, Option.some.injEq, reduceCtorEq, and_false, exists_false, ACode.seq.injEq] at h
  obtain ⟨a', h1, b', h2, rfl, rfl⟩ := h
  exact ⟨_, _, rfl, h1, h2⟩
theorem cCode_cond {code : Code} {c : Opd} {a b : ACode} (h : cCode P n code = some (.cond c a b)) : ∃ z x y, code = .cond z x y ∧ cOpd z = c ∧ cCode P n x = some a ∧ cCode P n y = some b := by
  unfold cCode at h
  split at h <;> simp only [Option.bind_eq_bind, Option.bind_eq_some_iff, Option.map_eq_some_iff, Option.some.injEq, reduceCtorEq, and_false, exists_false, ACode.cond.injEq] at h
  obtain ⟨a', h1, b', h2, rfl, rfl, rfl⟩ := h
  exact ⟨_, _, _, rfl, rfl, h1, h2⟩
theorem cCode_block {code : Code} {id : Nat} {c : ACode} (h : cCode P n code = some (.block id c)) : ∃ x, code = .block id x ∧ cCode P n x = some c := by
  unfold cCode at h
  split at h <;> simp only [Option.bind_eq_bind, Option.bind_eq_some_iff, Option.map_eq_some_iff, Option.some.injEq, reduceCtorEq, and_false, exists_false, ACode.block.injEq] at h
  obtain ⟨a', h1, rfl, rfl⟩ := h
  exact ⟨_, rfl, h1⟩
theorem cCode_loop {code : Code} {c : ACode} (h : cCode P n code = some (.loop c)) : ∃ x, code = .loop x ∧ cCode P n x = some c := by
  unfold cCode at h
  split at h <;> simp only [Option.bind_eq_bind, Option.bind_eq_some_iff, Option.map_eq_some_iff, Option.some.injEq, reduceCtorEq, and_false, exists_false, ACode.loop.injEq] at h
  obtain ⟨a', h1, rfl⟩ := h
  exact ⟨_, rfl, h1⟩

theorem LiftE.trans {m m' : Emb} (hm : m.le m') {Q : Exit → Env → AH → Prop} {e : Exit} {a : Act} {w : World} (h : LiftE P n m' Q e a w) : LiftE P n m Q e a w := by
  obtain ⟨m2, σ, h2, a1, a2, a3, a4⟩ := h
  exact ⟨m2, σ, h2, hm.trans a1, a2, a3, a4⟩

theorem wpCode_sound (hm : P.follows .mixedOrders = true) : ∀ (c : ACode) {σ : Env} {h : AH} {Q : Exit → Env → AH → Prop}, wpCode P n c σ h Q → AWP P n c σ h Q := by
  intro c
  induction c with
  | skip => intro σ h Q H code hc m a w T R; obtain rfl := cCode_skip hc; exact wp_skip ⟨m, σ, h, .refl m, T, R, H⟩
  | ops l => intro σ h Q H code hc m a w T R; obtain ⟨id, ops, rfl, h1⟩ := cCode_ops hc; exact wp_region_list (ops_sound h1 (.refl m) T R H)
  | draw p => intro σ h Q H code hc m a w T R; obtain ⟨id, ops, l, rfl, h1, h2⟩ := cCode_draw hc; exact draw_sound hm h1 h2 T R H
  | seq x y ihx ihy =>
    intro σ h Q H code hc m a w T R
    obtain ⟨cx, cy, rfl, h1, h2⟩ := cCode_seq hc
    refine wp_seq (wp_mono (ihx H cx h1 m a w T R) fun e a' w' hq => ?_)
    obtain ⟨m', σ', h', q1, q2, q3, q4⟩ := hq
    cases e with
    | normal => exact wp_mono (ihy q4 cy h2 m' a' w' q2 q3) fun e a w hq => hq.trans q1
    | _ => exact ⟨m', σ', h', q1, q2, q3, q4⟩
  | cond c x y ihx ihy =>
    intro σ h Q H code hc m a w T R
    obtain ⟨z, cx, cy, rfl, rfl, h1, h2⟩ := cCode_cond hc
    unfold wpCode at H
    split at H
    · rename_i b hb
      have hz := T.ev z
      rw [hb] at hz
      refine wp_cond hz.bool_inv ?_
      cases b
      · exact ihy (H.2 rfl) cy h2 m a w T R
      · exact ihx (H.1 rfl) cx h1 m a w T R
    · exact H.elim
  | block id c ih =>
    intro σ h Q H code hc m a w T R
    obtain ⟨cx, rfl, h1⟩ := cCode_block hc
    refine wp_block (wp_mono (ih H cx h1 m a w T R) fun e a' w' hq => ?_)
    obtain ⟨m', σ', h', q1, q2, q3, q4⟩ := hq
    cases e with
    | exit i =>
      simp only [Exit.inBlock]
      simp only at q4
      split
      · rename_i hi; rw [if_pos hi] at q4; exact ⟨m', σ', h', q1, q2, q3, q4⟩
      · rename_i hi; rw [if_neg hi] at q4; exact ⟨m', σ', h', q1, q2, q3, q4⟩
    | _ => exact ⟨m', σ', h', q1, q2, q3, q4⟩
  | loop c ih => intro σ h Q H; exact H
  | exit id => intro σ h Q H code hc m a w T R; obtain rfl := cCode_exit hc; exact wp_exit ⟨m, σ, h, .refl m, T, R, H⟩
  | ret => intro σ h Q H code hc m a w T R; obtain rfl := cCode_ret hc; exact wp_ret ⟨m, σ, h, .refl m, T, R, H⟩

/-- A loop, by what holds at every round's head and a number that falls. -/
theorem wp_loop_ghost {c : Code} {Q : Exit → Act → World → Prop} {a : Act} {w : World} (I : Nat → Act → World → Prop) {k₀ : Nat} (h₀ : I k₀ a w)
    (round : ∀ k a w, I k a w → c.wp P (Exit.then (fun a' w' => ∃ k', k' < k ∧ I k' a' w') Q) a w) : (Code.loop c).wp P Q a w := by
  intro b k cs
  have key : ∀ n a w, I n a w → ∃ e a' w', Q e a' w' ∧ Arrives P (lone (b.at a (.code c :: .inLoop c :: k)) cs w) b k cs e a' w' := by
    intro n
    induction n using Nat.strongRecOn with
    | _ n ih =>
      intro a w hI
      obtain ⟨e, a₁, w₁, hq, harr⟩ := round n a w hI b (.inLoop c :: k) cs
      cases e with
      | normal =>
        obtain ⟨k', hlt, hI₁⟩ := hq
        obtain ⟨e₂, a₂, w₂, hq₂, harr₂⟩ := ih k' hlt a₁ w₁ hI₁
        exact ⟨e₂, a₂, w₂, hq₂, .of_steps (Steps.trans harr (.one step_inLoop)) harr₂⟩
      | exit id => exact ⟨_, a₁, w₁, hq, .pass (x := .inLoop c) rfl (fun _ _ => .inl (by simp)) harr⟩
      | goto l => exact ⟨_, a₁, w₁, hq, .pass (x := .inLoop c) rfl (fun _ _ => .inl (by simp)) harr⟩
      | ret => exact ⟨_, a₁, w₁, hq, .pass (x := .inLoop c) rfl (fun _ _ => .inl (by simp)) harr⟩
      | panic ch => exact ⟨_, a₁, w₁, hq, .pass (x := .inLoop c) rfl (fun _ _ => .inl (by simp)) harr⟩
      | outgrown => exact ⟨_, a₁, w₁, hq, .pass (x := .inLoop c) rfl (fun _ _ => .inl (by simp)) harr⟩
  obtain ⟨e, a', w', hq, harr⟩ := key _ a w h₀
  exact ⟨e, a', w', hq, .of_steps (.one step_loop) harr⟩

/-- One state covers another that says less. -/
def Cov (P : Program) (n : Nat) (σ : Env) (h : AH) (σ' : Env) (h' : AH) : Prop :=
  ∀ m a w, TRel n m σ a → HRel P m h w → ∃ m', m.le m' ∧ TRel n m' σ' a ∧ HRel P m' h' w

theorem Cov.refl (σ : Env) (h : AH) : Cov P n σ h σ h := fun m a w T H => ⟨m, .refl m, T, H⟩
theorem Cov.trans {σ σ' σ'' : Env} {h h' h'' : AH} (x : Cov P n σ h σ' h') (y : Cov P n σ' h' σ'' h'') : Cov P n σ h σ'' h'' := fun m a w T H => by
  obtain ⟨m1, a1, a2, a3⟩ := x m a w T H
  obtain ⟨m2, b1, b2, b3⟩ := y m1 a w a2 a3
  exact ⟨m2, a1.trans b1, b2, b3⟩

theorem AWP_cov {c : ACode} {σ σ' : Env} {h h' : AH} {Q : Exit → Env → AH → Prop} (k : Cov P n σ h σ' h') (H : AWP P n c σ' h' Q) : AWP P n c σ h Q := fun code hc m a w T R => by
  obtain ⟨m', a1, a2, a3⟩ := k m a w T R
  exact wp_mono (H code hc m' a w a2 a3) fun e a w hq => hq.trans a1

theorem AWP_loop {c : ACode} {σ : Env} {h : AH} {Q : Exit → Env → AH → Prop} (I : Nat → Env → AH → Prop) {k₀ : Nat} {σ₀ : Env} {h₀ : AH} (hcov : Cov P n σ h σ₀ h₀) (hI : I k₀ σ₀ h₀)
    (round : ∀ k σ h, I k σ h → AWP P n c σ h fun e σ' h' => match e with
      | .normal => ∃ k', k' < k ∧ ∃ σ'' h'', Cov P n σ' h' σ'' h'' ∧ I k' σ'' h''
      | e => Q e σ' h') : AWP P n (.loop c) σ h Q := by
  refine AWP_cov hcov ?_
  intro code hc m a w T R
  obtain ⟨cx, rfl, h1⟩ := cCode_loop hc
  refine wp_loop_ghost (fun k a w => Lift P n m (I k) a w) (k₀ := k₀) ⟨m, σ₀, h₀, .refl m, T, R, hI⟩ ?_
  rintro k a w ⟨m', σ', h', q1, q2, q3, q4⟩
  refine wp_mono (round k σ' h' q4 cx h1 m' a w q2 q3) fun e a w hq => ?_
  obtain ⟨m2, σ2, h2, p1, p2, p3, p4⟩ := hq
  cases e with
  | normal =>
    obtain ⟨k', hlt, σ3, h3, hc3, hI3⟩ := p4
    obtain ⟨m4, r1, r2, r3⟩ := hc3 m2 a w p2 p3
    exact ⟨k', hlt, m4, σ3, h3, (q1.trans p1).trans r1, r2, r3, hI3⟩
  | _ => exact ⟨m2, σ2, h2, q1.trans p1, p2, p3, p4⟩

/-- What a function hands back. -/
inductive RV where
  | tmp (t : Nat)
  | cell (t : Nat) (agg : Option Nat)

def cRes (P : Program) : List ResultVar → Option (List RV)
  | [] => some []
  | .tmp t :: l => (cRes P l).map (.tmp t :: ·)
  | .cell t ty :: l => do some (.cell t (← aggOf P ty) :: (← cRes P l))

def wpRes : List RV → Env → AH → (List AV → Prop) → Prop
  | [], σ, h, K => K []
  | .tmp t :: l, σ, h, K => wpRes l σ h fun vs => K (σ t :: vs)
  | .cell t agg :: l, σ, h, K => aLoad agg (σ t) h fun v => wpRes l σ h fun vs => K (v :: vs)

def resV : List AV → AV
  | [v] => v
  | vs => .tup vs

def getRes (tmps : Array Value) : ResultVar → Sem Value
  | .tmp t => pure (tmps.getD t undef)
  | .cell x t => do loadVar t (← asAddr (tmps.getD x undef))

theorem wpRes_sound {m : Emb} {σ : Env} {h : AH} {a : Act} {w : World} (T : TRel n m σ a) (H : HRel P m h w) : ∀ {rs : List ResultVar} {l : List RV} {K : List AV → Prop}, cRes P rs = some l → wpRes l σ h K →
    ∃ vs cs, (rs.mapM (getRes a.tmps)).run P w = .ok cs w ∧ VRels m vs cs ∧ K vs := by
  intro rs
  induction rs with
  | nil => intro l K hc hw; simp [cRes] at hc; subst hc; exact ⟨[], [], rfl, VRels.nil, hw⟩
  | cons r rs ih =>
    intro l K hc hw
    cases r with
    | tmp t =>
      cases hc' : cRes P rs with
      | none => simp [cRes, hc'] at hc
      | some l' =>
        simp [cRes, hc'] at hc; subst hc
        obtain ⟨vs, cs, h1, h2, h3⟩ := ih hc' hw
        exact ⟨σ t :: vs, a.tmps.getD t undef :: cs, by
        have h0 : (getRes a.tmps (.tmp t)).run P w = .ok (a.tmps.getD t undef) w := rfl
        rw [List.mapM_cons, Sem.run_bind, h0]; show (Sem.run P (List.mapM (getRes a.tmps) rs >>= _) w) = _; rw [Sem.run_bind, h1]; rfl, VRels.cons (T.vals t) h2, h3⟩
    | cell x t =>
      cases hc' : cRes P rs with
      | none => simp [cRes, hc'] at hc
      | some l' =>
        cases hg : aggOf P t with
        | none => simp [cRes, hc', hg] at hc
        | some g =>
          simp [cRes, hc', hg] at hc; subst hc
          obtain ⟨v, k1, k2⟩ := aLoad_det hw
          obtain ⟨vs, cs, h1, h2, h3⟩ := ih hc' k1
          obtain ⟨c, g1, g2⟩ := aLoad_sound H (T.vals x) k2 hg
          have hp : ∃ ad, a.tmps.getD x undef = .pointer (some ad) := by
            have hv := T.vals x
            unfold aLoad at k2
            split at k2
            · rename_i r e; rw [e] at hv; exact hv.ptr_inv
            · rename_i e' o e; rw [e] at hv; exact hv.iptr_inv
            · exact k2.elim
          obtain ⟨ad, hp⟩ := hp
          rw [hp] at g1
          have g1' : (loadVar t ad).run P w = .ok c w := by simpa [Instr.loadAt, Instr.sureAddr] using g1
          exact ⟨v :: vs, c :: cs, by
            have h0 : (getRes a.tmps (.cell x t)).run P w = .ok c w := by
              show (do loadVar t (← asAddr (a.tmps.getD x undef)) : Sem Value).run P w = _; rw [hp]; exact g1'
            rw [List.mapM_cons, Sem.run_bind, h0]; show (Sem.run P (List.mapM (getRes a.tmps) rs >>= _) w) = _; rw [Sem.run_bind, h1]; rfl, VRels.cons g2 h2, h3⟩

def initEnv (vs : List AV) : Env := fun t => (vs[t]?).getD .any

/-- What must hold where a function is left. -/
def RetPost (rs : List RV) (Q : AV → AH → Prop) (e : Exit) (σ : Env) (h : AH) : Prop :=
  match e with
  | .normal => wpRes rs σ h fun vs => Q (resV vs) h
  | .ret => wpRes rs σ h fun vs => Q (resV vs) h
  | _ => False

theorem results_eq (fn : Func) (tmps : Array Value) : results fn tmps = (do
    let vs ← fn.results.mapM (getRes tmps)
    pure (if h : vs.size = 1 then vs[0] else .tuple vs)) := by
  have : getRes tmps = (fun | .tmp t => pure (tmps.getD t undef) | .cell x t => do loadVar t (← asAddr (tmps.getD x undef))) := by
    funext r; cases r <;> rfl
  rw [this]; rfl

theorem ACalls_of (hm : P.follows .mixedOrders = true) {f : Nat} {fn : Func} {code : Code} {c : ACode} {rs : List RV} {vs : List AV} {h : AH} {Q : AV → AH → Prop} (hf : P.funcs[f]? = some fn) (hb : fn.body = some code) (hc : cCode P fn.ntmps code = some c)
    (hr : cRes P fn.results.toList = some rs) (hn : vs.length ≤ fn.ntmps) (H : h.WF → wpCode P fn.ntmps c (initEnv vs) h (RetPost rs Q)) : ACalls P f vs h Q := by
  intro m w cs R hv
  refine calls_of_wp hf hb ?_
  have hlen : cs.length = vs.length := hv.1.symm
  have T : TRel fn.ntmps m (initEnv vs) { tmps := cs.toArray ++ Array.replicate (fn.ntmps - cs.toArray.size) undef, defers := [] } := by
    refine ⟨rfl, by simp; omega, fun t => ?_⟩
    unfold initEnv
    cases ht : vs[t]? with
    | none => exact .any _
    | some v =>
      obtain ⟨c, h1, h2⟩ := hv.get ht
      have hlt := (List.getElem?_eq_some_iff.1 h1).1
      have : (cs.toArray ++ Array.replicate (fn.ntmps - cs.toArray.size) undef).getD t undef = c := by
        rw [Array.getD_eq_getD_getElem?, Array.getElem?_append_left (by simpa using hlt)]
        simp [h1]
      rw [Option.getD_some, this]; exact h2
  refine wp_mono (wpCode_sound hm c (H R.wf) code hc m _ w T R) fun e a' w' hq => ?_
  obtain ⟨m', σ', h', q1, q2, q3, q4⟩ := hq
  have fin : ∀ {K : Prop}, wpRes rs σ' h' (fun vs => Q (resV vs) h') → a'.defers = [] ∧ ∃ v, (results fn a'.tmps).run P w' = .ok v w' ∧ (fun (e : Ending) (w' : World) => ∃ m' v h' c, m.le m' ∧ HRel P m' h' w' ∧ e = .returned c ∧ VRel m' v c ∧ Q v h') (.returned v) w' := by
    intro _ hw
    obtain ⟨vs', cs', h1, h2, h3⟩ := wpRes_sound q2 q3 hr hw
    refine ⟨q2.defers, ?_⟩
    have hm : (fn.results.mapM (getRes a'.tmps)).run P w' = .ok cs'.toArray w' := by
      rw [← Array.toArray_toList (xs := fn.results), List.mapM_toArray]
      simp only [Sem.run_map]
      rw [h1]; rfl
    have hl := h2.1
    match cs', hl with
    | [c], hl =>
      match vs', hl with
      | [v], _ =>
        refine ⟨c, ?_, m', v, h', c, q1, q3, rfl, h2.2 0 v c rfl rfl, h3⟩
        rw [results_eq, Sem.run_bind, hm]; simp
    | [], hl =>
      match vs', hl with
      | [], _ =>
        refine ⟨.tuple #[], ?_, m', .tup [], h', .tuple #[], q1, q3, rfl, VRel.tup_of VRels.nil, h3⟩
        rw [results_eq, Sem.run_bind, hm]; simp
    | c1 :: c2 :: cs', hl =>
      match vs', hl with
      | v1 :: v2 :: vs', _ =>
        refine ⟨.tuple (c1 :: c2 :: cs').toArray, ?_, m', .tup (v1 :: v2 :: vs'), h', _, q1, q3, rfl, VRel.tup_of h2, h3⟩
        rw [results_eq, Sem.run_bind, hm]; simp
  cases e with
  | normal => exact fin (K := True) q4
  | ret => exact fin (K := True) q4
  | _ => exact q4.elim

end Gls
