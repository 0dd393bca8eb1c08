/- The runner: codes and calls, and that it is sound. No condition. -/
import Derived.Test.YtfpkajhmelbbbaaGreatDoorEd
set_option linter.unusedVariables false
set_option linter.unusedSimpArgs false
namespace Gls
open Go
variable {P : Program} {n k : Nat}

-- codes, where numbers from k on may be given anew
def AWPk (P : Program) (n k : Nat) (c : ACode) (σ : Env) (h : AH) (Q : Exit → Env → AH → Prop) : Prop :=
  ∀ code, cCode P n code = some c → ∀ (m : Emb) (a : Act) (w : World), TRel n m σ a → HRel P m h w → code.wp P (fun e a w => ∃ m' σ' h', m.leB k m' ∧ TRel n m' σ' a ∧ HRel P m' h' w ∧ Q e σ' h') a w
def CovK (P : Program) (n k : Nat) (σ : Env) (h : AH) (σ' : Env) (h' : AH) : Prop :=
  ∀ m a w, TRel n m σ a → HRel P m h w → ∃ m', m.leB k m' ∧ TRel n m' σ' a ∧ HRel P m' h' w

section
variable {σ : Env} {h : AH} {Q Q' : Exit → Env → AH → Prop}
theorem AWP.toK {c : ACode} (H : AWP P n c σ h Q) : AWPk P n k c σ h Q := fun code hc m a w T R => wp_mono (H code hc m a w T R) fun e a w ⟨m', σ', h', a1, a2, a3, a4⟩ => ⟨m', σ', h', a1.toB, a2, a3, a4⟩
theorem AWPk.mono {c : ACode} (H : AWPk P n k c σ h Q) (g : ∀ e σ h, Q e σ h → Q' e σ h) : AWPk P n k c σ h Q' := fun code hc m a w T R => wp_mono (H code hc m a w T R) fun e a w ⟨m', σ', h', a1, a2, a3, a4⟩ => ⟨m', σ', h', a1, a2, a3, g _ _ _ a4⟩
theorem AWPk.post {c : ACode} (H : AWPk P n k c σ h fun e σ h => ∃ σ' h', CovK P n k σ h σ' h' ∧ Q e σ' h') : AWPk P n k c σ h Q := fun code hc m a w T R => wp_mono (H code hc m a w T R) fun e a w ⟨m', σ', h', a1, a2, a3, σ2, h2, a4, a5⟩ => by
  obtain ⟨m2, b1, b2, b3⟩ := a4 m' a w a2 a3
  exact ⟨m2, σ2, h2, a1.trans b1, b2, b3, a5⟩
theorem AWPk.seq {x y : ACode} (H : AWPk P n k x σ h fun e σ h => match e with | .normal => AWPk P n k y σ h Q | e => Q e σ h) : AWPk P n k (.seq x y) σ h Q := by
  intro code hc m a w T R
  obtain ⟨cx, cy, rfl, h1, h2⟩ := cCode_seq hc
  refine wp_seq (wp_mono (H cx h1 m a w T R) fun e a' w' hq => ?_)
  obtain ⟨m', σ', h', q1, q2, q3, q4⟩ := hq
  cases e with
  | normal => exact wp_mono (q4 cy h2 m' a' w' q2 q3) fun e a w ⟨m2, σ2, h2, a1, a2, a3, a4⟩ => ⟨m2, σ2, h2, q1.trans a1, a2, a3, a4⟩
  | _ => exact ⟨m', σ', h', q1, q2, q3, q4⟩
theorem AWPk.cond {c : Opd} {x y : ACode} {b : Bool} (hb : ev σ c = .bool b) (H1 : b = true → AWPk P n k x σ h Q) (H2 : b = false → AWPk P n k y σ h Q) : AWPk P n k (.cond c x y) σ h Q := by
  intro code hc m a w T R
  obtain ⟨z, cx, cy, rfl, rfl, h1, h2⟩ := cCode_cond hc
  have hz := T.ev z
  rw [hb] at hz
  refine wp_cond hz.bool_inv ?_
  cases b
  · exact H2 rfl cy h2 m a w T R
  · exact H1 rfl cx h1 m a w T R
theorem AWPk.block {id : Nat} {c : ACode} (H : AWPk P n k c σ h fun e σ h => match e with | .exit i => if i = id then Q .normal σ h else Q (.exit i) σ h | e => Q e σ h) : AWPk P n k (.block id c) σ h Q := by
  intro code hc m a w T R
  obtain ⟨cx, rfl, h1⟩ := cCode_block hc
  refine wp_block (wp_mono (H cx h1 m a w T R) fun e a' w' hq => ?_)
  obtain ⟨m', σ', h', q1, q2, q3, q4⟩ := hq
  cases e with
  | exit i =>
    simp only [Exit.inBlock]
    simp only at q4
    split
    · rename_i hi; rw [if_pos hi] at q4; exact ⟨m', σ', h', q1, q2, q3, q4⟩
    · rename_i hi; rw [if_neg hi] at q4; exact ⟨m', σ', h', q1, q2, q3, q4⟩
  | _ => exact ⟨m', σ', h', q1, q2, q3, q4⟩
theorem AWPk.loop {c : ACode} (I : Nat → Env → AH → Prop) {k₀ : Nat} (hI : I k₀ σ h)
    (round : ∀ j σ h, I j σ h → AWPk P n k c σ h fun e σ' h' => match e with
      | .normal => ∃ j', j' < j ∧ I j' σ' h'
      | e => Q e σ' h') : AWPk P n k (.loop c) σ h Q := by
  intro code hc m a w T R
  obtain ⟨cx, rfl, h1⟩ := cCode_loop hc
  refine wp_loop_ghost (fun j a w => ∃ m' σ' h', m.leB k m' ∧ TRel n m' σ' a ∧ HRel P m' h' w ∧ I j σ' h') (k₀ := k₀) ⟨m, σ, h, .refl m, T, R, hI⟩ ?_
  rintro j a w ⟨m', σ', h', q1, q2, q3, q4⟩
  refine wp_mono (round j σ' h' q4 cx h1 m' a w q2 q3) fun e a w hq => ?_
  obtain ⟨m2, σ2, h2, p1, p2, p3, p4⟩ := hq
  cases e with
  | normal =>
    obtain ⟨j', hlt, hI3⟩ := p4
    exact ⟨j', hlt, m2, σ2, h2, q1.trans p1, p2, p3, hI3⟩
  | _ => exact ⟨m2, σ2, h2, q1.trans p1, p2, p3, p4⟩
end

/-- A function's entry, where its new objects may be given numbers anew. -/
theorem ACalls_fnK (hm : P.follows .mixedOrders = true) {f nt : Nat} {c : ACode} {rs : List RV} {vs : List AV} {h : AH} {Q : AV → AH → Prop} (F : IsFn P f nt c rs) (hn : vs.length ≤ nt) (H : AWPk P nt h.next c (initEnv vs) h (RetPost rs Q)) : ACalls P f vs h Q := by
  obtain ⟨fn, code, hf, hb, rfl, hc, hr⟩ := F
  intro m w cs R hv
  refine calls_of_wp hf hb ?_
  have hlen : cs.length = vs.length := hv.1.symm
  have T : TRel fn.ntmps m (initEnv vs) { tmps := cs.toArray ++ Array.replicate (fn.ntmps - cs.toArray.size) undef, defers := [] } := by
    refine ⟨rfl, by simp; omega, fun t => ?_⟩
    unfold initEnv
    cases ht : vs[t]? with
    | none => exact .any _
    | some v =>
      obtain ⟨c, h1, h2⟩ := hv.get ht
      have hlt := (List.getElem?_eq_some_iff.1 h1).1
      have : (cs.toArray ++ Array.replicate (fn.ntmps - cs.toArray.size) undef).getD t undef = c := by
        rw [Array.getD_eq_getD_getElem?, Array.getElem?_append_left (by simpa using hlt)]
        simp [h1]
      rw [Option.getD_some, this]; exact h2
  refine wp_mono (H code hc m _ w T R) fun e a' w' hq => ?_
  obtain ⟨m', σ', h', q1, q2, q3, q4⟩ := hq
  have q1 := Emb.leB.full R q1
  have fin : ∀ {K : Prop}, wpRes rs σ' h' (fun vs => Q (resV vs) h') → a'.defers = [] ∧ ∃ v, (results fn a'.tmps).run P w' = .ok v w' ∧ (fun (e : Ending) (w' : World) => ∃ m' v h' c, m.le m' ∧ HRel P m' h' w' ∧ e = .returned c ∧ VRel m' v c ∧ Q v h') (.returned v) w' := by
    intro _ hw
    obtain ⟨vs', cs', h1, h2, h3⟩ := wpRes_sound q2 q3 hr hw
    refine ⟨q2.defers, ?_⟩
    have hm : (fn.results.mapM (getRes a'.tmps)).run P w' = .ok cs'.toArray w' := by
      rw [← Array.toArray_toList (xs := fn.results), List.mapM_toArray]
      simp only [Sem.run_map]
      rw [h1]; rfl
    have hl := h2.1
    match cs', hl with
    | [c], hl =>
      match vs', hl with
      | [v], _ =>
        refine ⟨c, ?_, m', v, h', c, q1, q3, rfl, h2.2 0 v c rfl rfl, h3⟩
        rw [results_eq, Sem.run_bind, hm]; simp
    | [], hl =>
      match vs', hl with
      | [], _ =>
        refine ⟨.tuple #[], ?_, m', .tup [], h', .tuple #[], q1, q3, rfl, VRel.tup_of VRels.nil, h3⟩
        rw [results_eq, Sem.run_bind, hm]; simp
    | c1 :: c2 :: cs', hl =>
      match vs', hl with
      | v1 :: v2 :: vs', _ =>
        refine ⟨.tuple (c1 :: c2 :: cs').toArray, ?_, m', .tup (v1 :: v2 :: vs'), h', _, q1, q3, rfl, VRel.tup_of h2, h3⟩
        rw [results_eq, Sem.run_bind, hm]; simp
  cases e with
  | normal => exact fin (K := True) q4
  | ret => exact fin (K := True) q4
  | _ => exact q4.elim

def bindR {α β : Type} (r : Rs β) (K : β → Rs α) : Rs α := match r with
  | none => none
  | some l => go l
where go : List β → Rs α
  | [] => some []
  | [x] => K x
  | x :: l => both (K x) (go l)
theorem bindR_go {α β : Type} {G : α → Prop} {K : β → Rs α} : ∀ {l : List β}, Good G (bindR.go K l) → ∀ x ∈ l, Good G (K x) := by
  intro l
  induction l with
  | nil => intro H x hx; cases hx
  | cons a l ih =>
    intro H x hx
    cases l with
    | nil => simp at hx; subst hx; exact H
    | cons b l =>
      obtain ⟨h1, h2⟩ := both_good (show Good G (both (K a) (bindR.go K (b :: l))) from H)
      rcases List.mem_cons.1 hx with rfl | hx
      · exact h1
      · exact ih h2 x hx
theorem bindR_good {α β : Type} {G : α → Prop} {r : Rs β} {K : β → Rs α} (H : Good G (bindR r K)) : ∃ l, r = some l ∧ ∀ x ∈ l, Good G (K x) := by
  unfold bindR at H
  split at H
  · exact not_good H
  · exact ⟨_, rfl, bindR_go H⟩

abbrev CEnv := Tr AV
def env (σ : CEnv) : Env := fun t => (σ.get t).getD .any
def cev (σ : CEnv) : Opd → AV
  | .t n => (σ.get n).getD .any
  | .c v => v
  | .f k => .fn (.func k) [] []
  | .u => .any
theorem ev_env {σ : CEnv} : ev (env σ) = cev σ := by funext x; cases x <;> rfl
def updC (σ : CEnv) (dst : Option Nat) (v : AV) : CEnv := match dst with
  | none => σ
  | some t => σ.set t (some v)
theorem env_upd {σ : CEnv} {dst : Option Nat} {v : AV} : env (updC σ dst v) = updO (env σ) dst v := by
  cases dst with
  | none => rfl
  | some t =>
    funext t'
    show ((σ.set t (some v)).get t').getD .any = if t' = t then v else _
    rw [Tr.get_set]
    by_cases h : t' = t <;> simp [h, env]


abbrev Call := Nat → List AV → CH → Rs (AV × CH)
section
variable (call : Call) {α : Type}
def eI (ρ : Opd → AV) (h : CH) (K : AV → CH → Rs α) : AInstr → Rs α
  | .op o => eA ρ h K o
  | .call f args => bindR (call f (args.map ρ) h) fun p => K p.1 p.2
  | .callv x args => match ρ x with
    | .fn (.func f) first caps => bindR (call f (first ++ args.map ρ ++ caps) h) fun p => K p.1 p.2
    | _ => none
def egs (v : AV) (want : Bool) (A B : Rs α) : Rs α := match v with
  | .bool b => if b == want then A else B
  | .tup [] => B
  | _ => none
theorem egs_sound {G : α → Prop} {v : AV} {want : Bool} {A B : Rs α} {A' B' : Prop} (H : Good G (egs v want A B)) (ha : Good G A → A') (hb : Good G B → B') : gsplit v want A' B' := by
  unfold egs at H
  split at H
  · rename_i b
    refine ⟨b == want, .inl ⟨b, rfl, rfl⟩, fun e => ?_, fun e => ?_⟩
    · rw [if_pos e] at H; exact ha H
    · rw [if_neg (by rw [e]; simp)] at H; exact hb H
  · exact ⟨false, .inr ⟨rfl, rfl⟩, (fun e => by cases e), fun _ => hb H⟩
  · exact not_good H
def runOps : List AOper → CEnv → CH → (CEnv → CH → Rs α) → Rs α
  | [], σ, h, K => K σ h
  | o :: os, σ, h, K => match o.guard with
    | none => eI call (cev σ) h (fun v h' => runOps os (updC σ o.dst v) h' K) o.ins
    | some (t, want) => egs (cev σ (.t t)) want (eI call (cev σ) h (fun v h' => runOps os (updC σ o.dst v) h' K) o.ins) (runOps os (updC σ o.dst (.tup [])) h K)
def eChk1 (σ : CEnv) (h : CH) (o : AOper) : Rs Unit := match o.ins with
  | .op op => eA (cev σ) h (fun v _ => match o.dst with | some d => if beqA 60 (cev σ (.t d)) v = true then some [] else none | none => some []) op
  | _ => none
def eChk (σ : CEnv) (h : CH) : List AOper → Bool
  | [] => true
  | o :: os => ab (match o.guard with
    | none => (eChk1 σ h o).isSome
    | some (t, want) => (egs (cev σ (.t t)) want (eChk1 σ h o) (some [])).isSome) (eChk σ h os)
def runPlan : Plan → CEnv → CH → (CEnv → CH → Rs α) → Rs α
  | .done, σ, h, K => K σ h
  | .stop, σ, h, K => some []
  | .q o p, σ, h, K => match o.guard with
    | none => eI call (cev σ) h (fun v h' => runPlan p (updC σ o.dst v) h' K) o.ins
    | some (t, want) => egs (cev σ (.t t)) want (eI call (cev σ) h (fun v h' => runPlan p (updC σ o.dst v) h' K) o.ins) (runPlan p (updC σ o.dst (.tup [])) h K)
  | .e o chk p .stop, σ, h, K => match o.guard with
    | none => eI call (cev σ) h (fun v h' => gd (eChk σ h' chk) (runPlan p (updC σ o.dst v) h' K)) o.ins
    | some (t, want) => egs (cev σ (.t t)) want (eI call (cev σ) h (fun v h' => gd (eChk σ h' chk) (runPlan p (updC σ o.dst v) h' K)) o.ins) (runPlan p (updC σ o.dst (.tup [])) h K)
  | .e o chk p other, σ, h, K => both (match o.guard with
    | none => eI call (cev σ) h (fun v h' => gd (eChk σ h' chk) (runPlan p (updC σ o.dst v) h' K)) o.ins
    | some (t, want) => egs (cev σ (.t t)) want (eI call (cev σ) h (fun v h' => gd (eChk σ h' chk) (runPlan p (updC σ o.dst v) h' K)) o.ins) (runPlan p (updC σ o.dst (.tup [])) h K)) (runPlan other σ h K)
/-- Has a plan more than one order? -/
def alts : Plan → Bool
  | .done => false
  | .stop => false
  | .q _ p => alts p
  | .e _ _ p .stop => alts p
  | .e _ _ _ _ => true
def Plan.dsts : Plan → List Nat
  | .done => []
  | .stop => []
  | .q o p => o.dst.toList ++ p.dsts
  | .e o _ p _ => o.dst.toList ++ p.dsts
def idOf : AV → Option Nat
  | .ptr r => some r.id
  | .slc r _ => some r.id
  | .map _ i => some i
  | .itr i => some i
  | _ => none
/-- How the second state's new objects are called in the first. -/
def numbering (k : Nat) (ds : List Nat) (σ σ' : CEnv) : List (Nat × Nat) := ds.filterMap fun t => match idOf (cev σ (.t t)), idOf (cev σ' (.t t)) with
  | some a, some b => if k ≤ a then some (a, b) else none
  | _, _ => none
def eqS (k : Nat) (q : List (Nat × Nat)) (s s' : CEnv × CH) : Bool := ab (Tr.all2 (eqA q 60) s.1 s'.1) (eqH k q s.2 s'.2)
def mergeS (k : Nat) (ds : List Nat) (r : Rs (CEnv × CH)) : Rs (CEnv × CH) := match r with
  | some (s :: l) => if (l.all fun s' => eqS k (numbering k ds s.1 s'.1) s s') = true then some [s] else some (s :: l)
  | r => r

abbrev Cont (α : Type) := Exit → CEnv → CH → Rs α
def iter (body : CEnv → CH → Cont α → Rs α) : Nat → CEnv → CH → Cont α → Rs α
  | 0, _, _, _ => none
  | n + 1, σ, h, K => body σ h fun e σ' h' => match e with
    | .normal => iter body n σ' h' K
    | e => K e σ' h'
def runC (k : Nat) : ACode → CEnv → CH → Cont α → Rs α
  | .skip, σ, h, K => K .normal σ h
  | .ops l, σ, h, K => runOps call l σ h (K .normal)
  | .draw p, σ, h, K => match alts p with
    | false => runPlan call p σ h (K .normal)
    | true => bindR (mergeS k p.dsts (runPlan call p σ h fun σ h => some [(σ, h)])) fun s => K .normal s.1 s.2
  | .seq a b, σ, h, K => runC k a σ h fun e σ' h' => match e with
    | .normal => runC k b σ' h' K
    | e => K e σ' h'
  | .cond c x y, σ, h, K => match cev σ c with
    | .bool true => runC k x σ h K
    | .bool false => runC k y σ h K
    | _ => none
  | .block id c, σ, h, K => runC k c σ h fun e σ' h' => match e with
    | .exit i => if i = id then K .normal σ' h' else K (.exit i) σ' h'
    | e => K e σ' h'
  | .loop c, σ, h, K => iter (runC k c) 1000000 σ h K
  | .exit id, σ, h, K => K (.exit id) σ h
  | .ret, σ, h, K => K .ret σ h
end

def CallOk (P : Program) (call : Call) : Prop := ∀ f vs h l (Q : AV → AH → Prop), call f vs h = some l → (∀ p ∈ l, Q p.1 p.2.abs) → ACalls P f vs h.abs Q ∧ enters P f = true

section
variable {call : Call} (hc : CallOk P call) {α : Type} {G : α → Prop}
include hc
theorem eI_sound {σ : CEnv} {h : CH} {K : AV → CH → Rs α} {K' : AV → AH → Prop} {i : AInstr} (H : Good G (eI call (cev σ) h K i)) (hk : ∀ v h, Good G (K v h) → K' v h.abs) : wpI P (ev (env σ)) h.abs K' i := by
  rw [ev_env]
  cases i with
  | op o => exact eA_sound H hk
  | call f args =>
    obtain ⟨l, h1, h2⟩ := bindR_good (show Good G (bindR _ _) from H)
    exact (hc f _ h l K' h1 fun p hp => hk _ _ (h2 p hp)).1
  | callv x args =>
    simp only [eI] at H; simp only [wpI]
    split at H
    · rename_i f first caps hx
      obtain ⟨l, h1, h2⟩ := bindR_good H
      have := hc f _ h l K' h1 fun p hp => hk _ _ (h2 p hp)
      rw [hx]; exact ⟨this.2, this.1⟩
    · exact not_good H
theorem runOps_sound : ∀ {l : List AOper} {σ : CEnv} {h : CH} {K : CEnv → CH → Rs α} {K' : Env → AH → Prop}, Good G (runOps call l σ h K) → (∀ σ h, Good G (K σ h) → K' (env σ) h.abs) → wpOpsA P l (env σ) h.abs K' := by
  intro l
  induction l with
  | nil => intro σ h K K' H hk; exact hk _ _ H
  | cons o l ih =>
    intro σ h K K' H hk
    unfold runOps at H
    unfold wpOpsA
    have go : Good G (eI call (cev σ) h (fun v h' => runOps call l (updC σ o.dst v) h' K) o.ins) → wpI P (ev (env σ)) h.abs (fun v h' => wpOpsA P l (updO (env σ) o.dst v) h' K') o.ins := fun H =>
      eI_sound hc H fun v h' H => by rw [← env_upd]; exact ih H hk
    split at H
    · rename_i hg; rw [hg]; exact go H
    · rename_i t want hg
      rw [hg]
      exact egs_sound H go fun H => by rw [← env_upd]; exact ih H hk
omit hc in
theorem good_unit {r : Rs Unit} (h : r.isSome = true) : Good (fun _ => True) r := by
  cases r with
  | none => cases h
  | some l => exact ⟨l, rfl, fun _ _ => trivial⟩
omit hc in
theorem eChk_sound {σ : CEnv} {h : CH} : ∀ {l : List AOper}, eChk σ h l = true → chkAll (env σ) h.abs l := by
  intro l
  induction l with
  | nil => intro _; exact trivial
  | cons o l ih =>
    intro H
    obtain ⟨h1, h2⟩ := ab_iff.1 (show ab _ _ = true from H)
    refine ⟨?_, ih h2⟩
    have one : Good (fun _ => True) (eChk1 σ h o) → chk1 (env σ) h.abs o := fun H => by
      unfold eChk1 at H; unfold chk1
      split at H
      · rename_i op ho
        rw [ho]
        simp only
        rw [ev_env]
        refine eA_sound H fun v h' H => ?_
        split at H
        · rename_i d hd
          rw [hd]
          split at H
          · rename_i hb; exact beqA_eq hb
          · exact not_good H
        · rename_i hd; rw [hd]; trivial
      · exact not_good H
    unfold chkG
    split at h1
    · rename_i hg; rw [hg]; exact one (good_unit h1)
    · rename_i t want hg
      rw [hg]
      obtain ⟨g, a, b, _⟩ := egs_sound (A' := chk1 (env σ) h.abs o) (B' := True) (good_unit h1) one fun _ => trivial
      exact ⟨g, a, b⟩
theorem runPlan_sound : ∀ {p : Plan} {σ : CEnv} {h : CH} {K : CEnv → CH → Rs α} {K' : Env → AH → Prop}, Good G (runPlan call p σ h K) → (∀ σ h, Good G (K σ h) → K' (env σ) h.abs) → wpPlan P p (env σ) h.abs K' := by
  intro p
  induction p with
  | done => intro σ h K K' H hk; exact hk _ _ H
  | stop => intro σ h K K' H hk; exact trivial
  | q o p ih =>
    intro σ h K K' H hk
    unfold runPlan at H
    unfold wpPlan
    have go : Good G (eI call (cev σ) h (fun v h' => runPlan call p (updC σ o.dst v) h' K) o.ins) → wpI P (ev (env σ)) h.abs (fun v h' => wpPlan P p (updO (env σ) o.dst v) h' K') o.ins := fun H =>
      eI_sound hc H fun v h' H => by rw [← env_upd]; exact ih H hk
    split at H
    · rename_i hg; rw [hg]; exact go H
    · rename_i t want hg
      rw [hg]
      exact egs_sound H go fun H => by rw [← env_upd]; exact ih H hk
  | e o chk p other ih1 ih2 =>
    intro σ h K K' H hk
    have go : Good G (eI call (cev σ) h (fun v h' => gd (eChk σ h' chk) (runPlan call p (updC σ o.dst v) h' K)) o.ins) → wpI P (ev (env σ)) h.abs (fun v h' => chkAll (env σ) h' chk ∧ wpPlan P p (updO (env σ) o.dst v) h' K') o.ins := fun H =>
      eI_sound hc H fun v h' H => by
        obtain ⟨a, b⟩ := gd_iff.1 H
        exact ⟨eChk_sound a, by rw [← env_upd]; exact ih1 b hk⟩
    have two : ∀ {H1 : Rs α}, H1 = (match o.guard with
        | none => eI call (cev σ) h (fun v h' => gd (eChk σ h' chk) (runPlan call p (updC σ o.dst v) h' K)) o.ins
        | some (t, want) => egs (cev σ (.t t)) want (eI call (cev σ) h (fun v h' => gd (eChk σ h' chk) (runPlan call p (updC σ o.dst v) h' K)) o.ins) (runPlan call p (updC σ o.dst (.tup [])) h K)) → Good G H1 → wpPlan P other (env σ) h.abs K' → wpPlan P (.e o chk p other) (env σ) h.abs K' := fun e H1 H2 => by
      subst e
      refine ⟨?_, H2⟩
      split at H1
      · rename_i hg; rw [hg]; exact go H1
      · rename_i t want hg
        rw [hg]
        exact egs_sound H1 go fun H => by rw [← env_upd]; exact ih1 H hk
    cases other with
    | stop => exact two rfl H trivial
    | done => obtain ⟨H1, H2⟩ := both_good (show Good G (both _ _) from H); exact two rfl H1 (ih2 H2 hk)
    | q o' p' => obtain ⟨H1, H2⟩ := both_good (show Good G (both _ _) from H); exact two rfl H1 (ih2 H2 hk)
    | e a b c d => obtain ⟨H1, H2⟩ := both_good (show Good G (both _ _) from H); exact two rfl H1 (ih2 H2 hk)
omit hc in
theorem eqS_sound {q : List (Nat × Nat)} {s s' : CEnv × CH} (H : eqS k q s s' = true) : CovK P n k (env s'.1) s'.2.abs (env s.1) s.2.abs := by
  obtain ⟨h1, h2⟩ := ab_iff.1 (show ab _ _ = true from H)
  intro m a w T R
  obtain ⟨a1, a2⟩ := eqH_sound h2 R
  refine ⟨_, a1, ⟨T.defers, T.size, fun t => ?_⟩, a2⟩
  have hv := T.vals t
  show VRel _ ((s.1.get t).getD .any) _
  cases ht : s.1.get t with
  | none => exact .any _
  | some v =>
    obtain ⟨v', e1, e2⟩ := Tr.all2_get h1 t v ht
    have : env s'.1 t = v' := by unfold env; rw [e1]; rfl
    rw [this] at hv
    exact eqA_sound e2 hv
omit hc in
theorem CovK.refl (σ : Env) (h : AH) : CovK P n k σ h σ h := fun m a w T R => ⟨m, .refl m, T, R⟩
omit hc in
theorem mergeS_sound {ds : List Nat} {r : Rs (CEnv × CH)} {l : List (CEnv × CH)} (H : mergeS k ds r = some l) : ∃ l', r = some l' ∧ ∀ s' ∈ l', ∃ s ∈ l, CovK P n k (env s'.1) s'.2.abs (env s.1) s.2.abs := by
  unfold mergeS at H
  split at H
  · rename_i s l'
    split at H
    · rename_i hc
      cases H
      refine ⟨_, rfl, fun s' hs' => ⟨s, List.mem_cons_self .., ?_⟩⟩
      rcases List.mem_cons.1 hs' with rfl | hs'
      · exact .refl _ _
      · exact eqS_sound (List.all_eq_true.1 hc s' hs')
    · cases H
      exact ⟨_, rfl, fun s' hs' => ⟨s', hs', .refl _ _⟩⟩
  · exact ⟨l, H, fun s' hs' => ⟨s', hs', .refl _ _⟩⟩
theorem runC_sound (hm : P.follows .mixedOrders = true) : ∀ {c : ACode} {σ : CEnv} {h : CH} {K : Cont α} {Q : Exit → Env → AH → Prop}, Good G (runC call k c σ h K) → (∀ e σ h, Good G (K e σ h) → Q e (env σ) h.abs) → AWPk P n k c (env σ) h.abs Q := by
  intro c
  induction c with
  | skip => intro σ h K Q H hk; exact (wpCode_sound hm .skip (hk _ _ _ H)).toK
  | ops l => intro σ h K Q H hk; exact (wpCode_sound hm (.ops l) (runOps_sound hc H fun σ h H => hk _ _ _ H)).toK
  | draw p =>
    intro σ h K Q H hk
    unfold runC at H
    split at H
    · exact (wpCode_sound hm (.draw p) (runPlan_sound hc H fun σ h H => hk _ _ _ H)).toK
    · obtain ⟨l, h1, h2⟩ := bindR_good H
      obtain ⟨l', h3, h4⟩ := mergeS_sound (P := P) (n := n) h1
      refine AWPk.post ?_
      refine (wpCode_sound hm (.draw p) (Q := fun e σ h => ∃ σ' h', CovK P n k σ h σ' h' ∧ Q e σ' h') (runPlan_sound (G := fun s => s ∈ l') hc (K := fun σ h => some [(σ, h)]) (K' := fun σ h => ∃ σ' h', CovK P n k σ h σ' h' ∧ Q .normal σ' h') ⟨l', h3, fun _ h => h⟩ fun σ h H => ?_)).toK
      obtain ⟨l2, e, H⟩ := H
      cases e
      obtain ⟨s, hs, cv⟩ := h4 _ (H _ (List.mem_cons_self ..))
      exact ⟨_, _, cv, hk _ _ _ (h2 s hs)⟩
  | seq a b iha ihb =>
    intro σ h K Q H hk
    refine AWPk.seq (iha H fun e σ h H => ?_)
    cases e with
    | normal => exact ihb H hk
    | _ => exact hk _ _ _ H
  | cond c x y ihx ihy =>
    intro σ h K Q H hk
    unfold runC at H
    split at H
    · rename_i hv; exact AWPk.cond (b := true) (by rw [ev_env]; exact hv) (fun _ => ihx H hk) fun e => by cases e
    · rename_i hv; exact AWPk.cond (b := false) (by rw [ev_env]; exact hv) (fun e => by cases e) fun _ => ihy H hk
    · exact not_good H
  | block id c ih =>
    intro σ h K Q H hk
    refine AWPk.block (ih H fun e σ h H => ?_)
    cases e with
    | exit i =>
      simp only at H ⊢
      split at H
      · rename_i hi; rw [if_pos hi]; exact hk _ _ _ H
      · rename_i hi; rw [if_neg hi]; exact hk _ _ _ H
    | _ => exact hk _ _ _ H
  | loop c ih =>
    intro σ h K Q H hk
    refine AWPk.loop (fun j σ' h' => ∃ σ h, σ' = env σ ∧ h' = h.abs ∧ Good G (iter (runC call k c) j σ h K)) (k₀ := 1000000) ⟨σ, h, rfl, rfl, H⟩ ?_
    rintro j _ _ ⟨σ, h, rfl, rfl, H⟩
    cases j with
    | zero => exact not_good H
    | succ j =>
      refine ih (Q := fun e σ' h' => match e with
        | .normal => ∃ j', j' < j + 1 ∧ ∃ σ h, σ' = env σ ∧ h' = h.abs ∧ Good G (iter (runC call k c) j' σ h K)
        | e => Q e σ' h') H fun e σ h H => ?_
      cases e with
      | normal => exact ⟨j, Nat.lt_succ_self j, σ, h, rfl, rfl, H⟩
      | _ => exact hk _ _ _ H
  | exit id => intro σ h K Q H hk; exact (wpCode_sound hm (.exit id) (hk _ _ _ H)).toK
  | ret => intro σ h K Q H hk; exact (wpCode_sound hm .ret (hk _ _ _ H)).toK
end

def eRes {α : Type} (σ : CEnv) (h : CH) : List RV → (List AV → Rs α) → Rs α
  | [], K => K []
  | .tmp t :: l, K => eRes σ h l fun vs => K (cev σ (.t t) :: vs)
  | .cell t agg :: l, K => eLoad agg (cev σ (.t t)) h fun v => eRes σ h l fun vs => K (v :: vs)
theorem eRes_sound {α : Type} {G : α → Prop} {σ : CEnv} {h : CH} : ∀ {l : List RV} {K : List AV → Rs α} {K' : List AV → Prop}, Good G (eRes σ h l K) → (∀ vs, Good G (K vs) → K' vs) → wpRes l (env σ) h.abs K' := by
  intro l
  induction l with
  | nil => intro K K' H hk; exact hk _ H
  | cons r l ih =>
    intro K K' H hk
    cases r with
    | tmp t => exact ih H fun vs H => hk _ H
    | cell t agg => exact eLoad_sound H fun v H => ih H fun vs H => hk _ H

def initC : Nat → List AV → CEnv → CEnv
  | _, [], t => t
  | k, v :: vs, t => initC (k + 1) vs (t.set k (some v))
theorem initC_get : ∀ {vs : List AV} {k : Nat} {t : CEnv} {j : Nat}, (initC k vs t).get j = if j < k then t.get j else (match vs[j - k]? with | some v => some v | none => t.get j) := by
  intro vs
  induction vs with
  | nil => intro k t j; simp [initC]
  | cons v vs ih =>
    intro k t j
    unfold initC
    rw [ih, Tr.get_set]
    by_cases h1 : j < k
    · rw [if_pos (by omega), if_neg (by omega), if_pos h1]
    · rw [if_neg h1]
      by_cases h2 : j = k
      · subst h2; simp
      · rw [if_neg (by omega), if_neg h2]
        obtain ⟨d, hd⟩ : ∃ d, j - k = d + 1 := ⟨j - k - 1, by omega⟩
        rw [hd, show j - (k + 1) = d from by omega]; simp
theorem env_init {vs : List AV} : env (initC 0 vs .nil) = initEnv vs := by
  funext t
  unfold env initEnv
  rw [initC_get]
  simp only [Nat.not_lt_zero, if_false, Nat.sub_zero]
  cases vs[t]? <;> rfl

structure FI where
  nt : Nat
  code : ACode
  res : List RV
  pure : Bool

def CH.back (h : CH) (n : Nat) : CH := { h with its := h.its.filter fun p => decide (p.1 < n) }
theorem look_back {n i : Nat} {l : List (Nat × AItr)} : CH.look i (l.filter fun p => decide (p.1 < n)) = if i < n then CH.look i l else none := by
  induction l with
  | nil => simp [CH.look]
  | cons p l ih =>
    obtain ⟨k, a⟩ := p
    by_cases hk : k < n
    · simp only [List.filter, hk, decide_true, CH.look]
      rw [ih]
      by_cases hi : i = k
      · subst hi; simp [hk]
      · simp [hi]
    · simp only [List.filter, hk, decide_false, CH.look]
      rw [ih]
      by_cases hi : i = k
      · subst hi; simp [hk]
      · simp [hi]
theorem back_abs {h : CH} {n : Nat} : (h.back n).abs = h.abs.fewerI fun i => decide (i < n) := by
  unfold CH.back CH.abs AH.fewerI
  simp only
  congr 1
  funext i
  rw [look_back]; simp


/-- A value without memory: can it be seen? -/
def isAtom : AV → Bool
  | .bool _ => true
  | .int _ _ => true
  | .str _ => true
  | .tup l => l.all fun v => match v with | .bool _ => true | .int _ _ => true | .str _ => true | _ => false
  | _ => false
theorem Atom.tup {l : List AV} (H : ∀ v ∈ l, Atom v) : Atom (.tup l) := fun m m' c r => by
  cases r with | tup _ a h1 h2 => exact .tup _ a h1 fun i v c x y => H v (List.mem_of_getElem? x) _ _ _ (h2 i v c x y)
theorem isAtom_sound {v : AV} (H : isAtom v = true) : Atom v := by
  unfold isAtom at H
  split at H
  · exact .bool
  · exact .int
  · exact .str
  · refine .tup fun v hv => ?_
    have := List.all_eq_true.1 H v hv
    split at this
    · exact .bool
    · exact .int
    · exact .str
    · cases this
  · cases H
theorem Atom.lo {k : Nat} {v : AV} (H : Atom v) : Lo k v := fun m c r => H _ _ _ r

/-- Are the objects that were there as they were? -/
def oldSame (h h' : CH) : Bool := ab (decide (h.its.isEmpty = true ∧ h.next ≤ h'.next)) (ab (Tr.under h.next 1 0 h.objs) ((List.range h.next).all fun j => match h.objs.get j, h'.objs.get j with
  | none, _ => true
  | some (.arr t es), some (.arr t' es') => ab (decide (t = t')) (all2 (beqA 60) es es')
  | some (.map t es), some (.map t' es') => ab (decide (t = t')) (ab (all2 (beqA 60) (es.map (·.1)) (es'.map (·.1))) (all2 (beqA 60) (es.map (·.2)) (es'.map (·.2))))
  | _, _ => false))
theorem map_fst_snd {l r : List (AV × AV)} (h1 : l.map (·.1) = r.map (·.1)) (h2 : l.map (·.2) = r.map (·.2)) : l = r := by
  induction l generalizing r with
  | nil => cases r with | nil => rfl | cons b r => simp at h1
  | cons a l ih =>
    cases r with
    | nil => simp at h1
    | cons b r =>
      simp only [List.map_cons, List.cons.injEq] at h1 h2
      rw [Prod.ext h1.1 h2.1, ih h1.2 h2.2]
theorem oldSame_sound {h h' : CH} (H : oldSame h h' = true) : (∀ t i es, h.arr t i = some es → h'.arr t i = some es) ∧ (∀ t i es, h.map t i = some es → h'.map t i = some es) ∧ h.its = [] ∧ h.next ≤ h'.next := by
  obtain ⟨h1, H⟩ := ab_iff.1 H
  obtain ⟨h3, h4⟩ := ab_iff.1 H
  obtain ⟨hi, hn⟩ := of_decide_eq_true h1
  have hi : h.its = [] := by simpa using hi
  refine ⟨fun t i es e => ?_, fun t i es e => ?_, hi, hn⟩
  · have e1 := CH.arr_get e
    have hj := Tr.under_get h3 i _ e1
    have := List.all_eq_true.1 h4 i (List.mem_range.2 (by omega))
    rw [e1] at this
    cases ho : h'.objs.get i with
    | none => rw [ho] at this; cases this
    | some o =>
      rw [ho] at this
      cases o with
      | map t' es' => cases this
      | arr t' es' =>
        obtain ⟨g1, g2⟩ := ab_iff.1 (show ab _ _ = true from this)
        have g1 := of_decide_eq_true g1; subst g1
        rw [CH.arr_eq, ho, all2_eq (fun _ _ => beqA_eq) g2]; simp
  · have e1 := CH.map_get e
    have hj := Tr.under_get h3 i _ e1
    have := List.all_eq_true.1 h4 i (List.mem_range.2 (by omega))
    rw [e1] at this
    cases ho : h'.objs.get i with
    | none => rw [ho] at this; cases this
    | some o =>
      rw [ho] at this
      cases o with
      | arr t' es' => cases this
      | map t' es' =>
        obtain ⟨g1, g2⟩ := ab_iff.1 (show ab _ _ = true from this)
        obtain ⟨g2, g3⟩ := ab_iff.1 g2
        have g1 := of_decide_eq_true g1; subst g1
        rw [CH.map_eq, ho, map_fst_snd (all2_eq (fun _ _ => beqA_eq) g2) (all2_eq (fun _ _ => beqA_eq) g3)]; simp

/-- What a call hands back, in one form: what is of no use any more is forgotten. -/
def mergeV (h : CH) (r : Rs (AV × CH)) : Rs (AV × CH) := match r with
  | some (p :: l) => match l with
    | [] => some [p]
    | _ => if (ab (isAtom p.1) (ab (oldSame h p.2) (l.all fun p' => ab (beqA 60 p'.1 p.1) (oldSame h p'.2)))) = true then some [(p.1, h)]
      else if ((p :: l).all fun p' => ab (eqA [] 60 p.1 p'.1) (eqH h.next [] p.2 p'.2)) = true then some [p] else some (p :: l)
  | r => r

def mapO (g : AV → Option AV) : List AV → Option (List AV)
  | [] => some []
  | v :: l => match g v with
    | some v' => (mapO g l).map (v' :: ·)
    | none => none
def rdE (g : AV → Option AV) (e : AV) : Option AV := match e with
  | .agg cs => (mapO g cs).map AV.agg
  | v => match g v with
    | some (.agg _) => none
    | o => o
/-- A value that names no object. -/
def plainB : Nat → AV → Bool
  | 0, _ => false
  | f + 1, v => match v with
    | .ptr _ => false
    | .slc _ _ => false
    | .map _ _ => false
    | .itr _ => false
    | .iptr e _ => e.cells.all (plainB f)
    | .vals _ l => (flatC l).all (plainB f)
    | .imap es => ab ((es.map (·.1)).all (plainB f)) ((es.map (·.2)).all (plainB f))
    | .agg l => l.all (plainB f)
    | .tup l => l.all (plainB f)
    | .fn _ l l' => ab (l.all (plainB f)) (l'.all (plainB f))
    | .iface _ v => plainB f v
    | _ => true
theorem plainB_sound {k : Nat} : ∀ {f : Nat} {v : AV}, plainB f v = true → Lo k v := by
  intro f
  induction f with
  | zero => intro v H; cases H
  | succ f ih =>
    intro v H
    have lows : ∀ {l : List AV}, l.all (plainB f) = true → Lows k l := fun {l} H => .of fun v hv => ih (List.all_eq_true.1 H v hv)
    unfold plainB at H
    split at H
    · cases H
    · cases H
    · cases H
    · cases H
    · exact .iptr (lows H)
    · exact .vals (lows H)
    · obtain ⟨h1, h2⟩ := ab_iff.1 H
      exact .imap (fun i e x => lows h1 i _ (by simp [x])) (fun i e x => lows h2 i _ (by simp [x]))
    · exact .agg (lows H)
    · exact .tup (lows H)
    · obtain ⟨h1, h2⟩ := ab_iff.1 H; exact .fn (lows h1) (lows h2)
    · exact .iface (ih H)
    · cases v <;> first | exact .any | exact .bool | exact .int | exact .float | exact .str | exact .nilp | exact .nils | exact .nilm | exact .nilf | exact .nili | (exfalso; simp_all)

/-- A value read off memory, for good. -/
def rdA (h : CH) : Nat → AV → Option AV
  | 0, _ => none
  | f + 1, v => match v with
    | .any => some .any
    | .bool b => some (.bool b)
    | .int k n => some (.int k n)
    | .str s => some (.str s)
    | .nilp => some .nilp
    | .nils => some .nils
    | .nilm => some .nilm
    | .nilf => some .nilf
    | .nili => some .nili
    | .ptr r => match h.arr r.ty r.id with
      | some es => match es[r.idx]? with
        | some (.agg cs) => (mapO (rdA h f) cs).map fun cs' => .iptr (.agg cs') r.off
        | _ => none
      | none => none
    | .slc r n => match h.arr r.ty r.id with
      | some (e0 :: es) => if r.idx + n ≤ (e0 :: es).length ∧ 0 < n ∧ ∀ e ∈ e0 :: es, e.cells.length = e0.cells.length then (mapO (rdE (rdA h f)) (((e0 :: es).drop r.idx).take n)).map (.vals e0.cells.length) else if n = 0 then some (.vals e0.cells.length []) else none
      | _ => none
    | .map t i => match h.map t i with
      | some es => match mapO (rdA h f) (es.map (·.1)) with
        | some a => match mapO (rdA h f) (es.map (·.2)) with
          | some b => some (.imap (a.zip b))
          | none => none
        | none => none
      | none => none
    | .agg cs => (mapO (rdA h f) cs).map .agg
    | .tup cs => (mapO (rdA h f) cs).map .tup
    | v => if plainB 60 v = true then some v else none

theorem mapO_get {g : AV → Option AV} : ∀ {l l' : List AV}, mapO g l = some l' → l.length = l'.length ∧ ∀ (j : Nat) (u u' : AV), l[j]? = some u → l'[j]? = some u' → g u = some u' := by
  intro l
  induction l with
  | nil => intro l' H; cases H; exact ⟨rfl, fun j u u' e => by simp at e⟩
  | cons v l ih =>
    intro l' H
    unfold mapO at H
    split at H
    · rename_i v' hv
      obtain ⟨r, hr, rfl⟩ := Option.map_eq_some_iff.1 H
      obtain ⟨a, b⟩ := ih hr
      refine ⟨by simp [a], fun j u u' e e' => ?_⟩
      cases j with
      | zero => simp at e e'; subst e; subst e'; exact hv
      | succ j => exact b j u u' (by simpa using e) (by simpa using e')
    · cases H
theorem mapO_app {g : AV → Option AV} : ∀ {a b c d : List AV}, mapO g a = some b → mapO g c = some d → mapO g (a ++ c) = some (b ++ d) := by
  intro a
  induction a with
  | nil => intro b c d H K; cases H; exact K
  | cons v a ih =>
    intro b c d H K
    unfold mapO at H
    split at H
    · rename_i v' hv
      obtain ⟨r, hr, rfl⟩ := Option.map_eq_some_iff.1 H
      show mapO g (v :: (a ++ c)) = _
      unfold mapO
      rw [hv]
      simp only
      rw [ih hr K]; rfl
    · cases H
theorem rdE_cells {g : AV → Option AV} {e e' : AV} (H : rdE g e = some e') : mapO g e.cells = some e'.cells := by
  unfold rdE at H
  split at H
  · obtain ⟨r, hr, rfl⟩ := Option.map_eq_some_iff.1 H
    exact hr
  · rename_i hne
    have h1 : e.cells = [e] := by cases e <;> first | rfl | exact absurd rfl (hne _)
    split at H
    · cases H
    · rename_i hne2
      have h2 : e'.cells = [e'] := by cases e' <;> first | rfl | exact absurd H (hne2 _)
      rw [h1, h2]
      unfold mapO
      rw [H]; rfl
theorem rdE_flat {g : AV → Option AV} : ∀ {l l' : List AV}, mapO (rdE g) l = some l' → mapO g (flatC l) = some (flatC l') := by
  intro l
  induction l with
  | nil => intro l' H; cases H; rfl
  | cons v l ih =>
    intro l' H
    unfold mapO at H
    split at H
    · rename_i v' hv
      obtain ⟨r, hr, rfl⟩ := Option.map_eq_some_iff.1 H
      exact mapO_app (rdE_cells hv) (ih hr)
    · cases H

theorem rdA_sound {h : CH} : ∀ {f : Nat} {v v' : AV}, rdA h f v = some v' → Reads h.abs (fun _ => true) v v' ∧ Lo 0 v' := by
  intro f
  induction f with
  | zero => intro v v' H; cases H
  | succ f ih =>
    intro v v' H
    have lows : ∀ {l l' : List AV}, mapO (rdA h f) l = some l' → Lows 0 l' := fun {l l'} H i x e => by
      obtain ⟨a, b⟩ := mapO_get H
      have hlt : i < l.length := by rw [a]; exact (List.getElem?_eq_some_iff.1 e).1
      exact (ih (b i _ x (List.getElem?_eq_getElem hlt) e)).2
    unfold rdA at H
    split at H
    · cases H; exact ⟨.refl _, .any⟩
    · cases H; exact ⟨.refl _, .bool⟩
    · cases H; exact ⟨.refl _, .int⟩
    · cases H; exact ⟨.refl _, .str⟩
    · cases H; exact ⟨.refl _, .nilp⟩
    · cases H; exact ⟨.refl _, .nils⟩
    · cases H; exact ⟨.refl _, .nilm⟩
    · cases H; exact ⟨.refl _, .nilf⟩
    · cases H; exact ⟨.refl _, .nili⟩
    · rename_i r
      split at H
      · rename_i es h1
        split at H
        · rename_i cs h2
          obtain ⟨cs', hr, rfl⟩ := Option.map_eq_some_iff.1 H
          obtain ⟨a, b⟩ := mapO_get hr
          exact ⟨.ptr r es (.agg cs) (.agg cs') rfl h1 h2 a fun j u u' e e' => (ih (b j u u' e e')).1, .iptr (lows hr)⟩
        · cases H
      · cases H
    · rename_i r n
      split at H
      · rename_i e0 es h1
        split at H
        · rename_i hc
          obtain ⟨c1, c2, c3⟩ := hc
          obtain ⟨l, hr, rfl⟩ := Option.map_eq_some_iff.1 H
          obtain ⟨a, b⟩ := mapO_get hr
          have hf := rdE_flat hr
          obtain ⟨a2, b2⟩ := mapO_get hf
          have hlen : l.length = n := by rw [← a, List.length_take, List.length_drop, Nat.min_eq_left (by omega)]
          refine ⟨.slc r n (e0 :: es) e0.cells.length l rfl h1 c1 c2 hlen (fun e he => ?_) c3 fun j u u' e e' => (ih (b2 j u u' e e')).1, .vals (lows hf)⟩
          obtain ⟨i, hi, rfl⟩ := List.getElem_of_mem he
          have hlt : i < (((e0 :: es).drop r.idx).take n).length := by rw [a]; exact hi
          have := rdE_cells (b i _ _ (List.getElem?_eq_getElem hlt) (List.getElem?_eq_getElem hi))
          rw [← (mapO_get this).1]
          exact c3 _ (List.mem_of_mem_drop (List.mem_of_mem_take (List.getElem_mem hlt)))
        · split at H
          · rename_i hn; subst hn; cases H; exact ⟨.slc0 r _, .vals .nil⟩
          · cases H
      · cases H
    · rename_i t i
      split at H
      · rename_i es h1
        split at H
        · rename_i a ha
          split at H
          · rename_i b hb
            cases H
            obtain ⟨a1, a2⟩ := mapO_get ha
            obtain ⟨b1, b2⟩ := mapO_get hb
            simp only [List.length_map] at a1 b1
            have get : ∀ {j : Nat} {e' : AV × AV}, (a.zip b)[j]? = some e' → a[j]? = some e'.1 ∧ b[j]? = some e'.2 := fun {j e'} q => by
              rw [List.getElem?_zip_eq_some] at q; exact q
            refine ⟨.map t i es _ rfl h1 (by simp [List.length_zip, ← a1, ← b1]) (fun j e e' q q' => ?_) (fun j e e' q q' => ?_), .imap (fun j e' q' => ?_) (fun j e' q' => ?_)⟩
            · exact (ih (a2 j e.1 e'.1 (by simp [q]) (get q').1)).1
            · exact (ih (b2 j e.2 e'.2 (by simp [q]) (get q').2)).1
            · exact lows ha j _ (get q').1
            · exact lows hb j _ (get q').2
          · cases H
        · cases H
      · cases H
    · obtain ⟨cs', hr, rfl⟩ := Option.map_eq_some_iff.1 H
      obtain ⟨a, b⟩ := mapO_get hr
      exact ⟨.agg _ _ a fun j u u' e e' => (ih (b j u u' e e')).1, .agg (lows hr)⟩
    · obtain ⟨cs', hr, rfl⟩ := Option.map_eq_some_iff.1 H
      obtain ⟨a, b⟩ := mapO_get hr
      exact ⟨.tup _ _ a fun j u u' e e' => (ih (b j u u' e e')).1, .tup (lows hr)⟩
    · split at H
      · rename_i hp; cases H; exact ⟨.refl _, plainB_sound hp⟩
      · cases H

/-- What a call does with what is read off memory, in an empty memory, it does in any, if it answers nothing of memory. -/
theorem ACalls.frameR {f : Nat} {vs vs' : List AV} {v : AV} {h : AH} (H : ACalls P f vs' AH.empty fun v' _ => v' = v) (hv : Atom v) (hl : vs.length = vs'.length) (hr : ∀ (i : Nat) (u u' : AV), vs[i]? = some u → vs'[i]? = some u' → Reads h (fun _ => true) u u' ∧ Lo 0 u') : ACalls P f vs h fun v' h' => v' = v ∧ h' = h := by
  intro m w cs R hvs
  have R' : HRel P { loc := fun _ _ => none, mloc := fun _ _ => none, iloc := fun _ => none, imm := fun b => w.heap[b]?, w0 := w } AH.empty w :=
    { os := rfl, tape := rfl, output := rfl, size := Nat.le_refl _, imm := fun b o e => e, old := fun b _ => rfl, live := fun t i es e => (by cases e), maps := fun t i es e => (by cases e), itrs := fun i it e => (by cases e),
      apart := fun t i es t' i' es' L L' e => (by cases e), mapart := fun t i t' i' r e => (by cases e), mlt := fun t i r e => (by cases e), iapart := fun i it i' it' r e => (by cases e), sized := fun t i L e => (by cases e), fresh := fun _ _ _ => ⟨rfl, rfl, rfl⟩, pre := R.pre_now }
  refine Calls.mono (H _ w cs R' ⟨by rw [← hl]; exact hvs.1, fun i u' c x y => ?_⟩) ?_
  · have hlt : i < vs.length := by rw [hl]; exact (List.getElem?_eq_some_iff.1 x).1
    obtain ⟨r1, r2⟩ := hr i _ u' (List.getElem?_eq_getElem hlt) x
    have h1 := reads_vrel R r1 (hvs.2 i _ c (List.getElem?_eq_getElem hlt) y)
    have h2 := r2 _ _ h1
    have R2 := freeze_hrel (F := fun _ => true) R
    exact VRel.sub (m := (m.freeze h w fun _ => true).cut 0) ⟨fun t i L e => by simp [Emb.cut] at e, fun t i L e => by simp [Emb.cut] at e, fun i L e => by simp [Emb.cut] at e, fun b o e => R2.imm b o e⟩ h2
  · rintro e w' ⟨m', v', h', c, h1, h2, h3, h4, rfl⟩
    have e0 := h1.w0
    refine ⟨m, v', h, c, .refl m, R.grow (by rw [h2.os, e0]) (by rw [h2.tape, e0]) (by rw [h2.output, e0]) (by have := h2.size; rw [e0] at this; exact this) (fun b hb => ?_), h3, hv _ _ _ h4, rfl, rfl⟩
    have : w.heap[b]? = some w.heap[b] := by simp [hb]
    rw [this]
    exact h2.imm b _ (h1.imm b _ this)

def CH.none : CH := ⟨.nil, [], 0⟩
theorem none_abs : CH.none.abs = AH.empty := by
  unfold CH.abs CH.none AH.empty
  congr 1
/-- One answer, whatever the way. -/
def oneV (h : CH) (r : Rs (AV × CH)) : Rs (AV × CH) := match r with
  | some (p :: l) => match isAtom p.1 with
    | true => match l.all (fun p' => beqA 60 p'.1 p.1) with
      | true => some [(p.1, h)]
      | false => .none
    | false => .none
  | _ => .none

def body (call : Call) (i : FI) (vs : List AV) (h : CH) : Rs (AV × CH) := gd (decide (vs.length ≤ i.nt)) (runC call h.next i.code (initC 0 vs .nil) h fun e σ h' => match e with
  | .normal => eRes σ h' i.res fun rs => some [(resV rs, h'.back h.next)]
  | .ret => eRes σ h' i.res fun rs => some [(resV rs, h'.back h.next)]
  | _ => none)

def callN (F : Tr FI) (S : Nat → List AV → CH → Option (AV × CH)) : Nat → Call
  | 0 => fun _ _ _ => none
  | d + 1 => fun f vs h => match S f vs h with
    | some p => some [p]
    | none => match F.get f with
      | none => none
      | some i => match i.pure with
        | false => mergeV h (body (callN F S d) i vs h)
        | true => match mapO (rdA h 60) vs with
          | none => mergeV h (body (callN F S d) i vs h)
          | some vs' => oneV h (body (callN F S d) i vs' CH.none)

def FOk (P : Program) (F : Tr FI) : Prop := ∀ f i, F.get f = some i → IsFn P f i.nt i.code i.res ∧ enters P f = true
def SOk (P : Program) (S : Nat → List AV → CH → Option (AV × CH)) : Prop := ∀ f vs h p, S f vs h = some p → ACalls P f vs h.abs (fun v' h' => v' = p.1 ∧ h' = p.2.abs) ∧ enters P f = true

/-- A call that leaves alone what was there, and answers nothing of memory. -/
theorem ACalls.drop {f : Nat} {vs : List AV} {h : AH} {v : AV} (H : ACalls P f vs h fun v' h' => v' = v ∧ (∀ t i es, h.arr t i = some es → h'.arr t i = some es) ∧ (∀ t i es, h.map t i = some es → h'.map t i = some es) ∧ h.next ≤ h'.next) (hi : ∀ i, h.itr i = none) (hv : Atom v) : ACalls P f vs h fun v' h' => v' = v ∧ h' = h := by
  refine PCalls.clean ?_ hv.lo
  intro m w cs R hvs
  refine Calls.mono (H m w cs R hvs) ?_
  rintro e w' ⟨m', v', h', c, h1, h2, h3, h4, h5, h6, h7, h8⟩
  refine ⟨m', v', h.bump h'.next, c, h1, h2.fewer (fun t i es e => h6 t i es e) (fun t i es e => h7 t i es e) (fun i it e => ?_) (Nat.le_refl _), h3, h4, h5, h'.next, rfl, h8⟩
  have : h.itr i = some it := e
  rw [hi i] at this; cases this

theorem ACalls.ren {f : Nat} {vs : List AV} {h : CH} {Q Q' : AV → AH → Prop} (H : ACalls P f vs h.abs Q) (g : ∀ v h', Q v h' → ∃ v1 : AV, ∃ h1 h2 : CH, ∃ q, h' = h2.abs ∧ eqA q 60 v1 v = true ∧ eqH h.next q h1 h2 = true ∧ Q' v1 h1.abs) : ACalls P f vs h.abs Q' := by
  intro m w cs R hvs
  refine Calls.mono (H m w cs R hvs) ?_
  rintro e w' ⟨m', v', h', c, h1, h2, h3, h4, h5⟩
  obtain ⟨v1, c1, c2, q, rfl, g1, g2, g3⟩ := g _ _ h5
  obtain ⟨a1, a2⟩ := eqH_sound g2 h2
  exact ⟨m'.ren (qa q), v1, c1.abs, c, Emb.leB.full R ((h1.toB).trans a1), a2, h3, eqA_sound g1 h4, g3⟩

theorem body_sound (hm : P.follows .mixedOrders = true) {call : Call} (ih : CallOk P call) {f : Nat} {i : FI} (a : IsFn P f i.nt i.code i.res) {vs : List AV} {h : CH} {l : List (AV × CH)} {Q : AV → AH → Prop} (el : body call i vs h = some l) (hk : ∀ p ∈ l, Q p.1 p.2.abs) : ACalls P f vs h.abs Q := by
  have H : Good (fun p => p ∈ l) (body call i vs h) := ⟨l, el, fun _ h => h⟩
  obtain ⟨hl, H⟩ := gd_iff.1 (show Good (fun p => p ∈ l) (gd _ _) from H)
  refine ACalls.fewerI (p := fun i => decide (i < h.next)) (Q := fun v h' => Q v (h'.fewerI fun i => decide (i < h.next))) (ACalls_fnK hm a (of_decide_eq_true hl) ?_) fun v h' q => q
  rw [← env_init]
  refine runC_sound ih hm H fun e σ h' H => ?_
  have last : ∀ rs, Good (fun p => p ∈ l) (some [(resV rs, h'.back h.next)]) → Q (resV rs) (h'.abs.fewerI fun i => decide (i < h.next)) := fun rs H => by
    obtain ⟨l2, e, H⟩ := H
    cases e
    rw [← back_abs]; exact hk _ (H _ (List.mem_cons_self ..))
  cases e with
  | normal => exact eRes_sound H fun vs H => last vs H
  | ret => exact eRes_sound H fun vs H => last vs H
  | _ => exact not_good H

theorem mergeV_sound {f : Nat} {vs : List AV} {h : CH} {r : Rs (AV × CH)} {l : List (AV × CH)} {Q : AV → AH → Prop} (run : ∀ {l : List (AV × CH)} {Q : AV → AH → Prop}, r = some l → (∀ p ∈ l, Q p.1 p.2.abs) → ACalls P f vs h.abs Q) (H : mergeV h r = some l) (hk : ∀ p ∈ l, Q p.1 p.2.abs) : ACalls P f vs h.abs Q := by
  unfold mergeV at H
  split at H
  · rename_i p l'
    split at H
    · cases H; exact run rfl hk
    · split at H
      · rename_i hc
        cases H
        obtain ⟨c1, c2⟩ := ab_iff.1 hc
        obtain ⟨c2, c3⟩ := ab_iff.1 c2
        have hq := hk _ (List.mem_cons_self ..)
        obtain ⟨_, _, hits, _⟩ := oldSame_sound c2
        refine ACalls.mono (ACalls.drop (v := p.1) (run rfl fun p' hp' => ?_) (fun i => by show CH.look i h.its = .none; rw [hits]; rfl) (isAtom_sound c1)) fun v' h' e => by rw [e.1, e.2]; exact hq
        rcases List.mem_cons.1 hp' with rfl | hp'
        · obtain ⟨x, y, _, z⟩ := oldSame_sound c2; exact ⟨rfl, x, y, z⟩
        · obtain ⟨d1, d2⟩ := ab_iff.1 (List.all_eq_true.1 c3 p' hp')
          obtain ⟨x, y, _, z⟩ := oldSame_sound d2; exact ⟨beqA_eq d1, x, y, z⟩
      · split at H
        · rename_i hc
          cases H
          have hq := hk _ (List.mem_cons_self ..)
          refine ACalls.ren (Q := fun v h' => ∃ p' ∈ p :: l', v = p'.1 ∧ h' = p'.2.abs) (run rfl fun p' hp' => ⟨p', hp', rfl, rfl⟩) ?_
          rintro v h' ⟨p', hp', rfl, rfl⟩
          obtain ⟨d1, d2⟩ := ab_iff.1 (List.all_eq_true.1 hc p' hp')
          exact ⟨p.1, p.2, p'.2, [], rfl, d1, d2, hq⟩
        · cases H; exact run rfl hk
  · exact run H hk

theorem callN_sound (hm : P.follows .mixedOrders = true) {F : Tr FI} {S : Nat → List AV → CH → Option (AV × CH)} (hF : FOk P F) (hS : SOk P S) : ∀ d, CallOk P (callN F S d) := by
  intro d
  induction d with
  | zero => intro f vs h l Q H; cases H
  | succ d ih =>
    intro f vs h l Q H hk
    unfold callN at H
    split at H
    · rename_i p hp
      cases H
      obtain ⟨a, b⟩ := hS f vs h p hp
      refine ⟨a.mono fun v' h' e => ?_, b⟩
      rw [e.1, e.2]; exact hk _ (List.mem_cons_self ..)
    · split at H
      · cases H
      · rename_i i hi
        obtain ⟨a, b⟩ := hF f i hi
        refine ⟨?_, b⟩
        split at H
        · exact mergeV_sound (fun el hk => body_sound hm ih a el hk) H hk
        · split at H
          · exact mergeV_sound (fun el hk => body_sound hm ih a el hk) H hk
          · rename_i vs' hv
            obtain ⟨v1, v2⟩ := mapO_get hv
            cases hb : body (callN F S d) i vs' CH.none with
            | none => rw [hb] at H; cases H
            | some l' =>
              rw [hb] at H
              unfold oneV at H
              split at H
              · rename_i p l2 e
                cases e
                split at H
                · rename_i hat
                  split at H
                  · rename_i hall
                    cases H
                    refine ACalls.mono (ACalls.frameR (v := p.1) (vs' := vs') ?_ (isAtom_sound hat) v1 fun j u u' x y => rdA_sound (v2 j u u' x y)) fun v' h' e => by rw [e.1, e.2]; exact hk _ (List.mem_cons_self ..)
                    rw [← none_abs]
                    refine body_sound hm ih a hb fun p' hp' => ?_
                    rcases List.mem_cons.1 hp' with rfl | hp'
                    · rfl
                    · exact beqA_eq (List.all_eq_true.1 hall p' hp')
                  · cases H
                · cases H
              · cases H

/-- A tree whose things are all right, each at its number. -/
def TrAll {α : Type} (p : Nat → α → Prop) : Nat → Nat → Tr α → Prop
  | _, _, .nil => True
  | a, b, .node l v r => (match v with | none => True | some x => p b x) ∧ TrAll p (2 * a) (a + b) l ∧ TrAll p (2 * a) (2 * a + b) r
theorem TrAll.get {α : Type} {p : Nat → α → Prop} : ∀ {t : Tr α} {a b : Nat}, TrAll p a b t → ∀ i x, t.get i = some x → p (a * i + b) x := by
  intro t
  induction t with
  | nil => intro a b H i x e; cases e
  | node l v r ihl ihr =>
    intro a b H i x e
    rw [Tr.get_node] at e
    obtain ⟨h1, h2, h3⟩ := H
    split at e
    · rename_i h0; subst h0; subst e; simpa using h1
    · rename_i h0
      split at e
      · rename_i ho
        have := ihl h2 _ _ e
        have e2 : 2 * a * (i / 2) + (a + b) = a * i + b := by
          have : a * i = a * (2 * (i / 2) + 1) := by congr 1; omega
          rw [this, Nat.mul_add, ← Nat.mul_assoc, Nat.mul_comm a 2]; omega
        rw [e2] at this; exact this
      · rename_i ho
        have := ihr h3 _ _ e
        have e2 : 2 * a * (i / 2 - 1) + (2 * a + b) = a * i + b := by
          have : a * i = a * (2 * (i / 2 - 1) + 2) := by congr 1; omega
          rw [this, Nat.mul_add, ← Nat.mul_assoc, Nat.mul_comm a 2]; omega
        rw [e2] at this; exact this
def FIs (P : Program) (f : Nat) (i : FI) : Prop := IsFn P f i.nt i.code i.res ∧ enters P f = true
theorem FOk.of {P : Program} {F : Tr FI} (H : TrAll (FIs P) 1 0 F) : FOk P F := fun f i e => by
  have := H.get f i e
  rw [Nat.one_mul, Nat.add_zero] at this
  exact this
end Gls
