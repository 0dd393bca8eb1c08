/- The program logic over the view: regions, branches, blocks, loops, calls. No condition. -/
import Derived.Test.YtfpkajhmelbbbaaGreatDoorGs
import Derived.Tactics
set_option linter.unusedVariables false
set_option linter.unusedSimpArgs false
namespace Gls
open Go

inductive AInstr where
  | op (o : AOp)
  | call (f : Nat) (args : List Opd)
  | callv (x : Opd) (args : List Opd)
  deriving Inhabited

structure AOper where
  dst : Option Nat
  guard : Option (Nat × Bool)
  ins : AInstr
  deriving Inhabited

/-- The orders of a drawn region: what leaves memory alone is taken as soon as it may be, each other operation in all orders; what looked at memory before is looked at again. -/
inductive Plan where
  | done
  | stop
  | q (o : AOper) (p : Plan)
  | e (o : AOper) (chk : List AOper) (p other : Plan)
  deriving Inhabited

inductive ACode where
  | skip
  | ops (l : List AOper)
  | draw (p : Plan)
  | seq (a b : ACode)
  | cond (c : Opd) (x y : ACode)
  | block (id : Nat) (c : ACode)
  | loop (c : ACode)
  | exit (id : Nat)
  | ret
  deriving Inhabited

def Opd.temps : Opd → List Nat
  | .t n => [n]
  | _ => []

def AOp.opds : AOp → List Opd
  | .mov x | .box _ _ x | .load _ x | .nilchk x | .un _ x | .convInt _ x | .s2b _ x | .b2s _ x | .same x | .mkIface _ x | .fieldAddr _ x | .field _ _ x | .range x | .next x | .entry x | .extract x _ | .lenStr x | .lenSl x | .lenMap x => [x]
  | .pick c a b => [c, a, b]
  | .alloc .. | .mkMap .. | .lenArr .. => []
  | .build _ ps | .mkSlice _ _ _ _ ps => ps.map (·.2.2)
  | .store _ x y | .bin _ x y | .eq _ _ x y | .makeSlice _ _ _ _ x y | .idxAddrS _ _ x y | .idxAddrA _ _ x y | .idxStr x y | .idxArr _ _ _ x y | .lookup _ _ _ x y | .append _ _ _ x y | .copy _ _ x y | .delete _ x y => [x, y]
  | .mkFunc _ a b => a ++ b
  | .sliceStr x lo hi | .sliceSl _ _ x lo hi => x :: (lo.toList ++ hi.toList)
  | .mapUpdate _ x y z => [x, y, z]
  | .minmax _ l => l

def AInstr.opds : AInstr → List Opd
  | .op o => o.opds
  | .call _ args => args
  | .callv x args => x :: args

def AInstr.quiet : AInstr → Bool
  | .op o => o.quiet
  | _ => false
def AInstr.looks : AInstr → Bool
  | .op o => o.looks
  | _ => false

/-- The temporaries that an operation reads. -/
def AOper.reads (o : AOper) : List Nat := (o.ins.opds.flatMap Opd.temps) ++ (match o.guard with | some (t, _) => [t] | none => [])

section
variable (l : List AOper) (pre : List (List Nat))
def preOf (i : Nat) : List Nat := (pre[i]?).getD []
/-- Each temporary is written once; what reads it waits for the writer, or the writer for it. -/
def drawOk : Bool := (List.range l.length).all fun i => match l[i]? with
  | none => true
  | some o => (List.range l.length).all fun j => match l[j]? with
    | none => true
    | some o' => match o'.dst with
      | none => true
      | some t => (!o.reads.contains t || (preOf pre i).contains j || (preOf pre j).contains i) && (i == j || o.dst != some t)

def avail (D : List Nat) (i : Nat) : Bool := !D.contains i && (preOf pre i).all D.contains
/-- What stands ahead of some operations, so many steps back. -/
def pclos : Nat → List Nat → List Nat
  | 0, xs => xs
  | k + 1, xs => pclos k (xs ++ (xs.flatMap (preOf pre)).filter fun x => !xs.contains x)

def chkOf (D : List Nat) (i : Nat) : List AOper := D.filterMap fun j => match l[j]? with
  | some o => if o.ins.looks && !(pclos pre 3 (preOf pre i)).contains j then some o else none
  | none => none

/-- Does all that reads what an operation writes wait for it? -/
def solo (o : AOper) (i : Nat) : Bool := match o.dst with
  | none => true
  | some t => (List.range l.length).all fun j => match l[j]? with
    | none => true
    | some o' => !o'.reads.contains t || (preOf pre j).contains i
def isQ (i : Nat) : Bool := match l[i]? with | some o => o.ins.quiet && solo l pre o i | none => false
def altStep (D : List Nat) (p : Option Plan) (i : Nat) (acc : Option Plan) : Option Plan := match l[i]?, p, acc with
  | some o, some p, some r => some (.e o (chkOf l pre D i) p r)
  | _, _, _ => none

def planGo : Nat → List Nat → Option Plan
  | 0, _ => none
  | k + 1, D => match (List.range l.length).find? fun i => avail pre D i && isQ l pre i with
    | some i => match l[i]? with
      | some o => (planGo k (i :: D)).map (.q o)
      | none => none
    | none => match (List.range l.length).filter (avail pre D) with
      | [] => some .done
      | es => es.foldr (fun i acc => altStep l pre D (planGo k (i :: D)) i acc) (some .stop)

def planOf : Option Plan := if drawOk l pre then planGo l pre (l.length + 1) [] else none
end

/-- Is a function entered when it is called? -/
def enters (P : Program) (f : Nat) : Bool :=
  match P.funcs[f]? with
  | some fn => fn.name != "runtime.NumGoroutine" && fn.body.isSome
  | none => false

def cInstr (P : Program) (o : Oper) : Option AInstr :=
  match o.op with
  | .call { callee := .value (.func f), args, .. } => if enters P f then some (.call f (args.toList.map cOpd)) else none
  | .call { callee := .value x, args, .. } => some (.callv (cOpd x) (args.toList.map cOpd))
  | _ => (cOp P o).map .op

def cGuard (ops : List Oper) : Option (Nat × Bool) → Option (Option (Nat × Bool))
  | none => some none
  | some (j, want) => match (ops[j]?).bind (·.dst) with
    | some t => some (some (t, want))
    | none => none

def cOper (P : Program) (n : Nat) (ops : List Oper) (o : Oper) : Option AOper := do
  let i ← cInstr P o
  let g ← cGuard ops o.guard
  match o.dst with
  | none => some ⟨none, g, i⟩
  | some d => if d < n then some ⟨some d, g, i⟩ else none

def cOpers (P : Program) (n : Nat) (ops : List Oper) : List Oper → Option (List AOper)
  | [] => some []
  | o :: l => do some ((← cOper P n ops o) :: (← cOpers P n ops l))

def cPre (o : Oper) : List Nat := (o.after.toList.filter fun e => Region.binds .any e).map (·.on)

def cCode (P : Program) (n : Nat) : Code → Option ACode
  | .skip => some .skip
  | .region _ ops false => (cOpers P n ops.toList ops.toList).map .ops
  | .region _ ops true => do some (.draw (← planOf (← cOpers P n ops.toList ops.toList) (ops.toList.map cPre)))
  | .seq a b => do some (.seq (← cCode P n a) (← cCode P n b))
  | .cond c x y => do some (.cond (cOpd c) (← cCode P n x) (← cCode P n y))
  | .block id c => do some (.block id (← cCode P n c))
  | .loop c => do some (.loop (← cCode P n c))
  | .exit id => some (.exit id)
  | .ret => some .ret
  | _ => none

def upd (σ : Env) (t : Nat) (v : AV) : Env := fun t' => if t' = t then v else σ t'
def updO (σ : Env) : Option Nat → AV → Env
  | none, _ => σ
  | some t, v => upd σ t v

structure TRel (n : Nat) (m : Emb) (σ : Env) (a : Act) : Prop where
  defers : a.defers = []
  size : a.tmps.size = n
  vals : ∀ t, VRel m (σ t) (a.tmps.getD t undef)

theorem TRel.mono {n : Nat} {m m' : Emb} {σ : Env} {a : Act} (h : TRel n m σ a) (hm : m.le m') : TRel n m' σ a := ⟨h.defers, h.size, fun t => (h.vals t).mono hm⟩

theorem TRel.put {n : Nat} {m : Emb} {σ : Env} {a : Act} (h : TRel n m σ a) {dst : Option Nat} (hd : ∀ d, dst = some d → d < n) {v : AV} {c : Value} (hv : VRel m v c) : TRel n m (updO σ dst v) (a.put dst c) := by
  cases dst with
  | none => exact h
  | some d =>
    have hlt := hd d rfl
    refine ⟨h.defers, by simp [Act.put, h.size], fun t => ?_⟩
    show VRel m (if t = d then v else σ t) ((a.tmps.setIfInBounds d c).getD t undef)
    by_cases ht : t = d
    · subst ht
      rw [if_pos rfl]
      have : (a.tmps.setIfInBounds t c).getD t undef = c := by simp [Array.getD, h.size, hlt]
      rw [this]; exact hv
    · rw [if_neg ht]
      have : (a.tmps.setIfInBounds d c).getD t undef = a.tmps.getD t undef := by
        simp only [Array.getD_eq_getD_getElem?, Array.getElem?_setIfInBounds_ne (Ne.symm ht)]
      rw [this]; exact h.vals t

theorem TRel.ev {n : Nat} {m : Emb} {σ : Env} {a : Act} (h : TRel n m σ a) (x : Operand) : VRel m (ev σ (cOpd x)) (a.eval x) := by
  cases x with
  | tmp t => exact h.vals t
  | const v => exact absC_rel m v
  | global g => exact .any _
  | func f => exact .fn _ _ _ _ _ rfl rfl (fun i v c e => by simp at e) (fun i v c e => by simp at e)

/-- A call's outcome, in the view. -/
def ACalls (P : Program) (f : Nat) (vs : List AV) (h : AH) (Q : AV → AH → Prop) : Prop :=
  ∀ (m : Emb) (w : World) (cs : List Value), HRel P m h w → VRels m vs cs →
    Calls P f cs.toArray w fun e w' => ∃ m' v h' c, m.le m' ∧ HRel P m' h' w' ∧ e = .returned c ∧ VRel m' v c ∧ Q v h'

def wpI (P : Program) (ρ : Opd → AV) (h : AH) (K : AV → AH → Prop) : AInstr → Prop
  | .op o => wpA ρ h K o
  | .call f args => ACalls P f (args.map ρ) h K
  | .callv x args => match ρ x with
    | .fn (.func f) first caps => enters P f = true ∧ ACalls P f (first ++ args.map ρ ++ caps) h K
    | _ => False

/-- What a guard comes to: what wasn't done itself lets nothing be done. -/
def guardIs (v : AV) (want g : Bool) : Prop := (∃ b, v = .bool b ∧ g = (b == want)) ∨ (v = .tup [] ∧ g = false)
def gsplit (v : AV) (want : Bool) (A B : Prop) : Prop := ∃ g, guardIs v want g ∧ (g = true → A) ∧ (g = false → B)
theorem guardIs_det {v : AV} {want g g' : Bool} (h : guardIs v want g) (h' : guardIs v want g') : g = g' := by
  rcases h with ⟨b, e1, e2⟩ | ⟨e1, e2⟩ <;> rcases h' with ⟨b', e3, e4⟩ | ⟨e3, e4⟩ <;> subst e1 <;> cases e3 <;> rw [e2, e4]

/-- Operations one behind the other. -/
def wpOpsA (P : Program) : List AOper → Env → AH → (Env → AH → Prop) → Prop
  | [], σ, h, K => K σ h
  | o :: os, σ, h, K =>
    match o.guard with
    | none => wpI P (ev σ) h (fun v h' => wpOpsA P os (updO σ o.dst v) h' K) o.ins
    | some (t, want) => gsplit (σ t) want (wpI P (ev σ) h (fun v h' => wpOpsA P os (updO σ o.dst v) h' K) o.ins) (wpOpsA P os (updO σ o.dst (.tup [])) h K)

variable {P : Program} {n : Nat}

/-- What holds in the view of a frame and a world that have come out of others. -/
def Lift (P : Program) (n : Nat) (m : Emb) (K : Env → AH → Prop) (a : Act) (w : World) : Prop :=
  ∃ m' σ h, m.le m' ∧ TRel n m' σ a ∧ HRel P m' h w ∧ K σ h

def LiftE (P : Program) (n : Nat) (m : Emb) (Q : Exit → Env → AH → Prop) (e : Exit) (a : Act) (w : World) : Prop := Lift P n m (Q e) a w

theorem Lift.mono {m m' : Emb} {K K' : Env → AH → Prop} {a : Act} {w : World} (h : Lift P n m' K a w) (hm : m.le m') (hk : ∀ σ h, K σ h → K' σ h) : Lift P n m K' a w := by
  obtain ⟨m2, σ, h2, a1, a2, a3, a4⟩ := h
  exact ⟨m2, σ, h2, hm.trans a1, a2, a3, hk _ _ a4⟩

theorem calls_step {m : Emb} {h : AH} {w : World} {a : Act} {σ : Env} {o : Oper} {K : AV → AH → Prop} {f : Nat} {vs : List AV} {cs : List Value} {next : Act → World → Prop} {Q : Exit → Act → World → Prop}
    (T : TRel n m σ a) (H : HRel P m h w) (hd : ∀ d, o.dst = some d → d < n) (hrun : (execOp a.eval o).run P w = .ok (.enter f cs.toArray) w) (hv : VRels m vs cs) (hw : ACalls P f vs h K)
    (hK : ∀ m' v h' c w', m.le m' → HRel P m' h' w' → VRel m' v c → K v h' → TRel n m' (updO σ o.dst v) (a.put o.dst c) → next (a.put o.dst c) w') : o.wp P a w next Q := by
  unfold Oper.wp
  rw [hrun]
  show Calls P f cs.toArray w _
  refine Calls.mono (hw m w cs H hv) ?_
  rintro e w' ⟨m', v, h', c, h1, h2, rfl, h4, h5⟩
  exact hK m' v h' c w' h1 h2 h4 h5 ((T.mono h1).put hd h4)

theorem callFunc_enter {f : Nat} (he : enters P f = true) (args : Array Value) (w : World) : (callFunc f args).run P w = .ok (.enter f args) w := by
  unfold enters at he
  cases hf : P.funcs[f]? with
  | none => simp [hf] at he
  | some fn =>
    rw [hf] at he
    simp only [Bool.and_eq_true, bne_iff_ne, ne_eq] at he
    have h2 : fn.body ≠ none := by intro hb; simp [hb] at he
    simp [callFunc, hf, he.1, h2]

theorem instr_sound {m : Emb} {h : AH} {w : World} {a : Act} {σ : Env} {o : Oper} {i : AInstr} {K : AV → AH → Prop} {next : Act → World → Prop} {Q : Exit → Act → World → Prop}
    (T : TRel n m σ a) (H : HRel P m h w) (hd : ∀ d, o.dst = some d → d < n) (hc : cInstr P o = some i) (hw : wpI P (ev σ) h K i)
    (hK : ∀ m' v h' c w', m.le m' → HRel P m' h' w' → VRel m' v c → K v h' → TRel n m' (updO σ o.dst v) (a.put o.dst c) → next (a.put o.dst c) w') : o.wp P a w next Q := by
  have opcase : ∀ op, cOp P o = some op → wpA (ev σ) h K op → o.wp P a w next Q := by
    intro op hop hw
    cases hq : op.quiet with
    | true =>
      obtain ⟨v, h1, h2⟩ := ans_of hq hw
      obtain ⟨c, h3, h4⟩ := quiet_sound H hop hq (fun x => T.ev x) h2
      unfold Oper.wp; rw [h3]
      exact hK m v h c w (.refl m) H h4 h1 (T.put hd h4)
    | false =>
      obtain ⟨nx, m', v, h', c, w', h1, h2, h3, h4, h5, h6⟩ := eff_sound H hop hq (fun x => T.ev x) hw
      unfold Oper.wp; rw [h1]
      rcases h2 with rfl | ⟨rfl, rfl⟩
      · exact hK m' v h' c w' h3 h4 h5 h6 ((T.mono h3).put hd h5)
      · exact hK m' v h' undef w' h3 h4 h5 h6 ((T.mono h3).put hd h5)
  have argsrel : ∀ (l : List Operand), VRels m (l.map cOpd |>.map (ev σ)) (l.map a.eval) := fun l => by
    rw [List.map_map]; exact VRels.of_map (f := ev σ ∘ cOpd) (g := a.eval) l fun x => T.ev x
  unfold cInstr at hc
  split at hc
  · rename_i f args _ hop
    split at hc
    · rename_i he
      cases hc
      refine calls_step (cs := args.toList.map a.eval) T H hd ?_ (argsrel args.toList) hw hK
      obtain ⟨dst, oop, ty, pos, after, guard⟩ := o
      simp only at hop; subst hop
      have e2 : (args.toList.map a.eval).toArray = args.map a.eval := by rw [← Array.toList_map]
      rw [e2]
      simp [execOp, resolve, Act.eval, Deferred.ofValue, invoke, callFunc_enter he]
    · cases hc
  · rename_i x args _ _ hop
    cases hc
    simp only [wpI] at hw
    split at hw
    · rename_i f first caps hx
      have hx' := T.ev x
      rw [hx] at hx'
      obtain ⟨c1, c2, e1, r1, r2⟩ := hx'.fn_inv
      refine calls_step (cs := c1.toList ++ args.toList.map a.eval ++ c2.toList) T H hd ?_ ((r1.append (argsrel args.toList)).append r2) hw.2 hK
      obtain ⟨dst, oop, ty, pos, after, guard⟩ := o
      simp only at hop; subst hop
      have e2 : (c1.toList ++ args.toList.map a.eval ++ c2.toList).toArray = c1 ++ args.map a.eval ++ c2 := by
        rw [← Array.toList_map]; simp
      rw [e2]
      simp [execOp, resolve, e1, Deferred.ofValue, invoke, callFunc_enter hw.1]
    · exact hw.elim
  · rename_i hn1 hn2
    cases hop : cOp P o with
    | none => simp [hop] at hc
    | some op => simp [hop] at hc; subst hc; exact opcase op hop hw

theorem cOper_inv {ops : List Oper} {o : Oper} {ao : AOper} (h : cOper P n ops o = some ao) : ∃ i g, cInstr P o = some i ∧ cGuard ops o.guard = some g ∧ ao = ⟨o.dst, g, i⟩ ∧ ∀ d, o.dst = some d → d < n := by
  unfold cOper at h
  cases hi : cInstr P o with
  | none => simp [hi] at h
  | some i =>
    cases hg : cGuard ops o.guard with
    | none => simp [hi, hg] at h
    | some g =>
      simp only [hi, hg, Option.bind_eq_bind, Option.bind_some] at h
      split at h
      · rename_i hd; cases h; exact ⟨i, g, rfl, rfl, by rw [hd], fun d e => by rw [hd] at e; cases e⟩
      · rename_i d hd
        split at h
        · rename_i hlt; cases h; exact ⟨i, g, rfl, rfl, by rw [hd], fun d' e => by rw [hd] at e; cases e; exact hlt⟩
        · cases h

/-- What a guard says of a frame. -/
theorem guard_sound {m : Emb} {a : Act} {σ : Env} {ops : Array Oper} {o : Oper} {t : Nat} {want g : Bool} (T : TRel n m σ a) (hg : cGuard ops.toList o.guard = some (some (t, want))) (ht : guardIs (σ t) want g) :
    Region.wanted o (yielded ops a.tmps) = g := by
  unfold cGuard at hg
  split at hg
  · cases hg
  · rename_i j want' hog
    split at hg
    · rename_i t' hj
      cases hg
      have hv := T.vals t
      have hdst : (ops[j]?).bind (·.dst) = some t := by rw [← Array.getElem?_toList]; exact hj
      have hy : yielded ops a.tmps j = match (a.tmps.getD t undef) with | .bool b => some b | _ => none := by
        unfold yielded
        rw [hdst, Array.getD_eq_getD_getElem?]
        cases hx : a.tmps[t]? with
        | none => simp [hx, undef]
        | some c => simp only [Option.bind_some, hx, Option.getD_some]; cases c <;> rfl
      simp only [Region.wanted, hog]
      rw [hy]
      rcases ht with ⟨b, hb, rfl⟩ | ⟨hb, rfl⟩
      · rw [hb] at hv
        rw [hv.bool_inv]
        simp
      · rw [hb] at hv
        obtain ⟨c, hc, _⟩ := hv.tup_inv
        rw [hc]
        rfl
    · cases hg

theorem VRel.undef {m : Emb} : VRel m (.tup []) undef := VRel.tup_of VRels.nil

theorem guard_none {ops : Array Oper} {o : Oper} {a : Act} (hg : cGuard ops.toList o.guard = some none) : Region.wanted o (yielded ops a.tmps) = true := by
  unfold cGuard at hg
  split at hg
  · rename_i h; simp [Region.wanted, h]
  · split at hg <;> cases hg

theorem ops_sound {ops : Array Oper} {Q : Exit → Env → AH → Prop} {m0 : Emb} : ∀ {l : List Oper} {al : List AOper} {m : Emb} {σ : Env} {h : AH} {a : Act} {w : World}, cOpers P n ops.toList l = some al → m0.le m → TRel n m σ a → HRel P m h w →
    wpOpsA P al σ h (Q .normal) → wpList P ops (LiftE P n m0 Q) l a w := by
  intro l
  induction l with
  | nil =>
    intro al m σ h a w hc hm T H hw
    simp [cOpers] at hc; subst hc
    exact ⟨m, σ, h, hm, T, H, hw⟩
  | cons o l ih =>
    intro al m σ h a w hc hm T H hw
    simp only [cOpers, Option.bind_eq_bind, Option.bind_eq_some_iff] at hc
    obtain ⟨ao, h1, al', h2, h3⟩ := hc
    cases h3
    obtain ⟨i, g, hi, hg, rfl, hd⟩ := cOper_inv h1
    unfold wpList
    unfold wpOpsA at hw
    have go : ∀ (hw : wpI P (ev σ) h (fun v h' => wpOpsA P al' (updO σ o.dst v) h' (Q .normal)) i), o.wp P a w (wpList P ops (LiftE P n m0 Q) l) (LiftE P n m0 Q) := fun hw =>
      instr_sound T H hd hi hw fun m' v h' c w' g1 g2 g3 g4 g5 => ih h2 (hm.trans g1) g5 g2 g4
    cases g with
    | none =>
      rw [if_pos (guard_none hg)]
      exact .inl (go hw)
    | some tw =>
      obtain ⟨t, want⟩ := tw
      obtain ⟨g, hgi, hw1, hw2⟩ := hw
      have hgs := guard_sound (ops := ops) T hg hgi
      cases g with
      | true => rw [if_pos hgs]; exact .inl (go (hw1 rfl))
      | false => rw [if_neg (by rw [hgs]; simp)]; exact ih h2 hm (T.put hd .undef) H (hw2 rfl)

end Gls
