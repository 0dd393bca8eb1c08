/- Walking in the view, step by step: what stands behind a step is left untouched until the step is done. No condition. -/
import Derived.Test.YtfpkajhmelbbbaaGreatDoorGu
set_option linter.unusedVariables false
set_option linter.unusedSimpArgs false
namespace Gls
open Go
variable {P : Program} {n : Nat}

/-- A mark that keeps what it names from being rewritten. -/
inductive Frz {α : Type _} (a : α) : Type where
  | mk

def bindO {α : Type} (o : Option α) (K : α → Prop) (f : Frz K := .mk) : Prop := ∃ x, o = some x ∧ K x
@[simp] theorem bindO_some {α : Type} (x : α) (K : α → Prop) : bindO (some x) K = K x := by simp [bindO]
@[simp] theorem bindO_none {α : Type} (K : α → Prop) : bindO (none : Option α) K = False := by simp [bindO]
theorem bindO_of {α : Type} {o : Option α} {K : α → Prop} {x : α} (h : o = some x) (k : K x) : bindO o K := ⟨x, h, k⟩
theorem bindO_iff {α : Type} {o : Option α} {K : α → Prop} : bindO o K ↔ ∃ x, o = some x ∧ K x := Iff.rfl

def need (A K : Prop) (f : Frz K := .mk) : Prop := A ∧ K
@[simp] theorem need_true (K : Prop) : need True K = K := by simp [need]
@[simp] theorem need_false (K : Prop) : need False K = False := by simp [need]
theorem need_of {A K : Prop} (h : A) (k : K) : need A K := ⟨h, k⟩

def branch (b : Bool) (A B : Prop) (f : Frz (A, B) := .mk) : Prop := (b = true → A) ∧ (b = false → B)
@[simp] theorem branch_true (A B : Prop) : branch true A B = A := by simp [branch]
@[simp] theorem branch_false (A B : Prop) : branch false A B = B := by simp [branch]
@[simp] theorem branch_not (b : Bool) (A B : Prop) : branch (!b) A B = branch b B A := by cases b <;> simp
theorem branch_of {b : Bool} {A B : Prop} (x : b = true → A) (y : b = false → B) : branch b A B := ⟨x, y⟩
theorem branch_dec {p : Prop} [Decidable p] {A B : Prop} (x : p → A) (y : ¬ p → B) : branch (decide p) A B := ⟨fun h => x (by simpa using h), fun h => y (by simpa using h)⟩

def splitP (c A B : Prop) (f : Frz (A, B) := .mk) : Prop := (c → A) ∧ (¬ c → B)
@[simp] theorem splitP_true {A B : Prop} : splitP True A B = A := by simp [splitP]
@[simp] theorem splitP_false {A B : Prop} : splitP False A B = B := by simp [splitP]
theorem splitP_of {c A B : Prop} (x : c → A) (y : ¬ c → B) : splitP c A B := ⟨x, y⟩

def onBool (v : AV) (A B : Prop) (f : Frz (A, B) := .mk) : Prop := match v with | .bool b => branch b A B | _ => False
@[simp] theorem onBool_bool (b : Bool) (A B : Prop) : onBool (.bool b) A B = branch b A B := rfl

-- codes
def xCode (P : Program) (n : Nat) (c : ACode) (σ : Env) (h : AH) (Q : Exit → Env → AH → Prop) (f : Frz (c, Q) := .mk) : Prop := wpCode P n c σ h Q
def xOps (P : Program) (l : List AOper) (σ : Env) (h : AH) (K : Env → AH → Prop) (f : Frz (l, K) := .mk) : Prop := wpOpsA P l σ h K
def xPlan (P : Program) (p : Plan) (σ : Env) (h : AH) (K : Env → AH → Prop) (f : Frz (p, K) := .mk) : Prop := wpPlan P p σ h K
def xI (P : Program) (ρ : Opd → AV) (h : AH) (K : AV → AH → Prop) (i : AInstr) (f : Frz (i, K) := .mk) : Prop := wpI P ρ h K i
def xA (ρ : Opd → AV) (h : AH) (K : AV → AH → Prop) (op : AOp) (f : Frz (op, K) := .mk) : Prop := wpA ρ h K op
def xCalls (P : Program) (g : Nat) (vs : List AV) (h : AH) (Q : AV → AH → Prop) (f : Frz Q := .mk) : Prop := ACalls P g vs h Q
def thenK (P : Program) (n : Nat) (b : ACode) (Q : Exit → Env → AH → Prop) (e : Exit) (σ : Env) (h : AH) : Prop := match e with
  | .normal => xCode P n b σ h Q
  | e => Q e σ h
def blockK (id : Nat) (Q : Exit → Env → AH → Prop) (e : Exit) (σ : Env) (h : AH) : Prop := match e with
  | .exit i => if i = id then Q .normal σ h else Q (.exit i) σ h
  | e => Q e σ h

section
variable {σ σ' : Env} {h h' : AH} {Q : Exit → Env → AH → Prop} {K : Env → AH → Prop} {b : ACode} {id i : Nat}
@[simp ↓] theorem thenK_normal : thenK P n b Q .normal σ h = xCode P n b σ h Q := rfl
@[simp ↓] theorem thenK_ret : thenK P n b Q .ret σ h = Q .ret σ h := rfl
@[simp ↓] theorem thenK_exit : thenK P n b Q (.exit i) σ h = Q (.exit i) σ h := rfl
@[simp ↓] theorem blockK_normal : blockK id Q .normal σ h = Q .normal σ h := rfl
@[simp ↓] theorem blockK_ret : blockK id Q .ret σ h = Q .ret σ h := rfl
@[simp ↓] theorem blockK_exit_eq : blockK id Q (.exit id) σ h = Q .normal σ h := if_pos rfl
@[simp ↓] theorem blockK_exit_ne (hi : i ≠ id) : blockK id Q (.exit i) σ h = Q (.exit i) σ h := if_neg hi
@[simp ↓] theorem xCode_skip : xCode P n .skip σ h Q = Q .normal σ h := rfl
@[simp ↓] theorem xCode_ops {l : List AOper} : xCode P n (.ops l) σ h Q = xOps P l σ h (Q .normal) := rfl
@[simp ↓] theorem xCode_draw {p : Plan} : xCode P n (.draw p) σ h Q = xPlan P p σ h (Q .normal) := rfl
@[simp ↓] theorem xCode_seq {x y : ACode} : xCode P n (.seq x y) σ h Q = xCode P n x σ h (thenK P n y Q) := rfl
@[simp ↓] theorem xCode_cond {c : Opd} {x y : ACode} : xCode P n (.cond c x y) σ h Q = onBool (ev σ c) (xCode P n x σ h Q) (xCode P n y σ h Q) := rfl
@[simp ↓] theorem xCode_block {x : ACode} : xCode P n (.block id x) σ h Q = xCode P n x σ h (blockK id Q) := rfl
@[simp ↓] theorem xCode_exit : xCode P n (.exit id) σ h Q = Q (.exit id) σ h := rfl
@[simp ↓] theorem xCode_ret : xCode P n .ret σ h Q = Q .ret σ h := rfl

variable {dst : Option Nat} {ins : AInstr} {os : List AOper} {t : Nat} {want : Bool} {p other : Plan} {chk : List AOper}
/-- One step of a list, its outcome handed on. -/
def stepK (P : Program) (dst : Option Nat) (os : List AOper) (σ : Env) (K : Env → AH → Prop) (v : AV) (h : AH) : Prop := xOps P os (updO σ dst v) h K
@[simp ↓] theorem stepK_eq {v : AV} : stepK P dst os σ K v h = xOps P os (updO σ dst v) h K := rfl
@[simp ↓] theorem xOps_nil : xOps P [] σ h K = K σ h := rfl
@[simp ↓] theorem xOps_cons : xOps P (⟨dst, none, ins⟩ :: os) σ h K = xI P (ev σ) h (stepK P dst os σ K) ins := rfl
def onGuard (v : AV) (want : Bool) (A B : Prop) (f : Frz (A, B) := .mk) : Prop := gsplit v want A B
@[simp] theorem onGuard_true {b : Bool} {A B : Prop} : onGuard (.bool b) true A B = branch b A B := by
  unfold onGuard branch gsplit guardIs; simp
@[simp] theorem onGuard_false {b : Bool} {A B : Prop} : onGuard (.bool b) false A B = branch b B A := by
  unfold onGuard branch gsplit guardIs; cases b <;> simp
@[simp] theorem onGuard_undef {A B : Prop} : onGuard (.tup []) want A B = B := by
  unfold onGuard gsplit guardIs; simp
@[simp ↓] theorem xOps_guard : xOps P (⟨dst, some (t, want), ins⟩ :: os) σ h K = onGuard (σ t) want (xI P (ev σ) h (stepK P dst os σ K) ins) (xOps P os (updO σ dst (.tup [])) h K) := rfl

def planK (P : Program) (dst : Option Nat) (p : Plan) (σ : Env) (K : Env → AH → Prop) (v : AV) (h : AH) : Prop := xPlan P p (updO σ dst v) h K
@[simp ↓] theorem planK_eq {v : AV} : planK P dst p σ K v h = xPlan P p (updO σ dst v) h K := rfl
def chkK (P : Program) (dst : Option Nat) (chk : List AOper) (p : Plan) (σ : Env) (K : Env → AH → Prop) (v : AV) (h : AH) : Prop := need (chkAll σ h chk) (xPlan P p (updO σ dst v) h K)
@[simp ↓] theorem chkK_eq {v : AV} : chkK P dst chk p σ K v h = need (chkAll σ h chk) (xPlan P p (updO σ dst v) h K) := rfl
@[simp ↓] theorem xPlan_done : xPlan P .done σ h K = K σ h := rfl
@[simp ↓] theorem xPlan_stop : xPlan P .stop σ h K = True := rfl
@[simp ↓] theorem xPlan_q : xPlan P (.q ⟨dst, none, ins⟩ p) σ h K = xI P (ev σ) h (planK P dst p σ K) ins := rfl
@[simp ↓] theorem xPlan_qg : xPlan P (.q ⟨dst, some (t, want), ins⟩ p) σ h K = onGuard (σ t) want (xI P (ev σ) h (planK P dst p σ K) ins) (xPlan P p (updO σ dst (.tup [])) h K) := rfl
@[simp ↓] theorem xPlan_e : xPlan P (.e ⟨dst, none, ins⟩ chk p .stop) σ h K = xI P (ev σ) h (chkK P dst chk p σ K) ins := by
  show (_ ∧ xPlan P .stop σ h K) = _
  rw [xPlan_stop, and_true]; rfl
@[simp ↓] theorem xPlan_eg : xPlan P (.e ⟨dst, some (t, want), ins⟩ chk p .stop) σ h K = onGuard (σ t) want (xI P (ev σ) h (chkK P dst chk p σ K) ins) (xPlan P p (updO σ dst (.tup [])) h K) := by
  show (_ ∧ xPlan P .stop σ h K) = _
  rw [xPlan_stop, and_true]; rfl
@[simp ↓] theorem chkAll_nil : chkAll σ h [] = True := rfl
@[simp ↓] theorem chkAll_cons {o : AOper} : chkAll σ h (o :: os) = (chkG σ h o ∧ chkAll σ h os) := rfl
theorem chkG_none {op : AOp} {d : Nat} : chkG σ h ⟨some d, none, .op op⟩ = xA (ev σ) h (fun v _ => σ d = v) op := rfl
attribute [simp ↓] chkG_none
end

section
variable {σ : Env}
@[simp] theorem ev_t {t : Nat} : ev σ (.t t) = σ t := rfl
@[simp] theorem ev_c {v : AV} : ev σ (.c v) = v := rfl
@[simp] theorem ev_f {k : Nat} : ev σ (.f k) = .fn (.func k) [] [] := rfl
@[simp] theorem updO_some {t : Nat} {v : AV} : updO σ (some t) v = upd σ t v := rfl
@[simp] theorem updO_none {v : AV} : updO σ none v = σ := rfl
@[simp] theorem upd_app {t t' : Nat} {v : AV} : upd σ t v t' = if t' = t then v else σ t' := rfl
theorem initEnv_app {vs : List AV} {t : Nat} : initEnv vs t = (vs[t]?).getD .any := rfl
@[simp] theorem initEnv_nil {t : Nat} : initEnv [] t = .any := rfl
@[simp] theorem initEnv_zero {v : AV} {vs : List AV} : initEnv (v :: vs) 0 = v := rfl
@[simp] theorem initEnv_succ {v : AV} {vs : List AV} {t : Nat} : initEnv (v :: vs) (t + 1) = initEnv vs t := by simp [initEnv]
end

-- calls
section
variable {ρ : Opd → AV} {h : AH} {K : AV → AH → Prop}
@[simp ↓] theorem xI_op {op : AOp} : xI P ρ h K (.op op) = xA ρ h K op := rfl
@[simp ↓] theorem xI_call {f : Nat} {args : List Opd} : xI P ρ h K (.call f args) = xCalls P f (args.map ρ) h K := rfl
def callvK (P : Program) (v : AV) (args : List AV) (h : AH) (K : AV → AH → Prop) (f : Frz K := .mk) : Prop := match v with
  | .fn (.func g) first caps => enters P g = true ∧ ACalls P g (first ++ args ++ caps) h K
  | _ => False
@[simp ↓] theorem xI_callv {x : Opd} {args : List Opd} : xI P ρ h K (.callv x args) = callvK P (ρ x) (args.map ρ) h K := rfl
@[simp] theorem callvK_fn {f : Nat} {first caps args : List AV} : callvK P (.fn (.func f) first caps) args h K = need (enters P f = true) (xCalls P f (first ++ args ++ caps) h K) := rfl
end

-- operations on values, with what stands behind them marked
section
variable (k : AV → Prop)
def xPart (agg : Option Nat) (e : AV) (off : Nat) (k : AV → Prop) (f : Frz k := .mk) : Prop := aPart agg e off k
def xLoad (agg : Option Nat) (p : AV) (h : AH) (k : AV → Prop) (f : Frz k := .mk) : Prop := aLoad agg p h k
def xStore (sz : Nat) (p v : AV) (h : AH) (K : AH → Prop) (f : Frz K := .mk) : Prop := aStore sz p v h K
def xBin (op : BinOp) (x y : AV) (k : AV → Prop) (f : Frz k := .mk) : Prop := aBin op x y k
def xUn (op : UnOp) (x : AV) (k : AV → Prop) (f : Frz k := .mk) : Prop := aUn op x k
def xBound (x : Option AV) (d hi : Nat) (K : Nat → Prop) (f : Frz K := .mk) : Prop := aBound x d hi K
def xSliceStr (x : AV) (lo hi : Option AV) (k : AV → Prop) (f : Frz k := .mk) : Prop := aSliceStr x lo hi k
def xSliceSl (T sz : Nat) (x : AV) (lo hi : Option AV) (k : AV → Prop) (f : Frz k := .mk) : Prop := aSliceSl T sz x lo hi k
def xIdxAddrS (T sz : Nat) (x i : AV) (k : AV → Prop) (f : Frz k := .mk) : Prop := aIdxAddrS T sz x i k
def xIdxAddrA (len sz : Nat) (x i : AV) (k : AV → Prop) (f : Frz k := .mk) : Prop := aIdxAddrA len sz x i k
def xFieldAddr (o : Nat) (x : AV) (k : AV → Prop) (f : Frz k := .mk) : Prop := aFieldAddr o x k
def xIdxStr (x i : AV) (k : AV → Prop) (f : Frz k := .mk) : Prop := aIdxStr x i k
def xExtract (x : AV) (i : Nat) (k : AV → Prop) (f : Frz k := .mk) : Prop := aExtract x i k
def xLenSl (x : AV) (k : AV → Prop) (f : Frz k := .mk) : Prop := aLenSl x k
def xElems (T sz : Nat) (x : AV) (h : AH) (K : List AV → Prop) (f : Frz K := .mk) : Prop := aElems T sz x h K
def xAppend (T sz bytes : Nat) (s x : AV) (h : AH) (K : AV → AH → Prop) (f : Frz K := .mk) : Prop := aAppend T sz bytes s x h K
def xCopy (T sz : Nat) (d s : AV) (h : AH) (K : AV → AH → Prop) (f : Frz K := .mk) : Prop := aCopy T sz d s h K
def xMakeSlice (T sz bytes : Nat) (z len cap : AV) (h : AH) (K : AV → AH → Prop) (f : Frz K := .mk) : Prop := aMakeSlice T sz bytes z len cap h K
def xEnts (m : AV) (h : AH) (K : List (AV × AV) → Prop) (f : Frz K := .mk) : Prop := aEnts m h K
def xLookup (ck : CK) (z : AV) (ok : Bool) (m k1 : AV) (h : AH) (k : AV → Prop) (f : Frz k := .mk) : Prop := aLookup ck z ok m k1 h k
def xMapUpdate (ck : CK) (m k1 v : AV) (h : AH) (K : AH → Prop) (f : Frz K := .mk) : Prop := aMapUpdate ck m k1 v h K
def xLenMap (m : AV) (h : AH) (k : AV → Prop) (f : Frz k := .mk) : Prop := aLenMap m h k
def xRange (m : AV) (h : AH) (K : AV → AH → Prop) (f : Frz K := .mk) : Prop := aRange m h K
def xNext (it : AV) (h : AH) (K : AV → AH → Prop) (f : Frz K := .mk) : Prop := aNext it h K
def xEntry (it : AV) (h : AH) (k : AV → Prop) (f : Frz k := .mk) : Prop := aEntry it h k
def xDelete (ck : CK) (m k1 : AV) (h : AH) (K : AH → Prop) (f : Frz K := .mk) : Prop := aDelete ck m k1 h K
end

-- operations
section
variable {ρ : Opd → AV} {h : AH} {K : AV → AH → Prop} {k : AV → Prop} {x y z : Opd}
/-- A value handed on, once it is worked out. -/
def withV (v : AV) (k : AV → Prop) (f : Frz k := .mk) : Prop := k v
@[simp] theorem withV_eq {v : AV} : withV v k = k v := rfl
@[simp ↓] theorem wA_mov : xA ρ h K (.mov x) = withV (ρ x) fun v => K v h := rfl
def pickV (c a b : AV) (k : AV → Prop) (f : Frz k := .mk) : Prop := match c with | .bool t => k (if t then a else b) | _ => False
@[simp ↓] theorem wA_pick : xA ρ h K (.pick x y z) = pickV (ρ x) (ρ y) (ρ z) fun v => K v h := rfl
@[simp] theorem pickV_bool {t : Bool} {a b : AV} : pickV (.bool t) a b k = k (if t then a else b) := rfl
@[simp ↓] theorem wA_alloc {T sz : Nat} {z : AV} : xA ρ h K (.alloc T sz z) = need (0 < sz ∧ z.cells.length = sz ∧ flat z) (K (.ptr ⟨T, h.next, 0, 0⟩) (h.push T [z])) := rfl
@[simp ↓] theorem wA_box {T sz : Nat} : xA ρ h K (.box T sz x) = need (0 < sz ∧ (ρ x).cells.length = sz ∧ flat (ρ x)) (K (.ptr ⟨T, h.next, 0, 0⟩) (h.push T [ρ x])) := rfl
@[simp ↓] theorem wA_build {z : List AV} {ps : List (Nat × Nat × Opd)} : xA ρ h K (.build z ps) = need (∀ q ∈ ps, (ρ q.2.2).known = true) (bindO (fillA z (ps.map fun (o, s, x) => (o, s, ρ x))) fun cs => K (.agg cs) h) := rfl
@[simp ↓] theorem wA_mkSlice {T sz len : Nat} {z : List AV} {ps : List (Nat × Nat × Opd)} : xA ρ h K (.mkSlice T sz len z ps) = need (0 < sz ∧ z.length = len * sz ∧ ∀ q ∈ ps, (ρ q.2.2).known = true)
    (bindO (fillA z (ps.map fun (o, s, x) => (o, s, ρ x))) fun cs => need (∀ u ∈ cs, u.noAgg = true) (K (.slc ⟨T, h.next, 0, 0⟩ len) (h.push T (chunks sz len cs)))) := rfl
@[simp ↓] theorem wA_load {agg : Option Nat} : xA ρ h K (.load agg x) = xLoad agg (ρ x) h fun v => K v h := rfl
@[simp ↓] theorem wA_store {sz : Nat} : xA ρ h K (.store sz x y) = xStore sz (ρ x) (ρ y) h fun h' => K .any h' := rfl
def nilV (v : AV) (k : AV → Prop) (f : Frz k := .mk) : Prop := match v with | .ptr r => k (.ptr r) | .iptr e o => k (.iptr e o) | _ => False
@[simp ↓] theorem wA_nilchk : xA ρ h K (.nilchk x) = nilV (ρ x) fun v => K v h := by
  unfold xA nilV; rfl
@[simp] theorem nilV_ptr {r : Ref} : nilV (.ptr r) k = k (.ptr r) := rfl
@[simp] theorem nilV_iptr {e : AV} {o : Nat} : nilV (.iptr e o) k = k (.iptr e o) := rfl
@[simp ↓] theorem wA_bin {op : BinOp} : xA ρ h K (.bin op x y) = xBin op (ρ x) (ρ y) fun v => K v h := rfl
@[simp ↓] theorem wA_eq {neg : Bool} {e : EqK} : xA ρ h K (.eq neg e x y) = bindO (aEq e (ρ x) (ρ y)) fun b => K (.bool (if neg then !b else b)) h := rfl
@[simp ↓] theorem wA_un {op : UnOp} : xA ρ h K (.un op x) = xUn op (ρ x) fun v => K v h := rfl
def convV (k : IntKind) (v : AV) (K : AV → Prop) (f : Frz K := .mk) : Prop := match v with | .int _ n => K (.int k (k.wrap n)) | _ => False
@[simp ↓] theorem wA_convInt {kd : IntKind} : xA ρ h K (.convInt kd x) = convV kd (ρ x) fun v => K v h := by unfold xA convV; rfl
@[simp] theorem convV_int {kd k' : IntKind} {n : Int} : convV kd (.int k' n) k = k (.int kd (kd.wrap n)) := rfl
def strV (v : AV) (K : List UInt8 → Prop) (f : Frz K := .mk) : Prop := match v with | .str s => K s | _ => False
@[simp] theorem strV_str {s : List UInt8} {K : List UInt8 → Prop} : strV (.str s) K = K s := rfl
@[simp ↓] theorem wA_s2b {T : Nat} : xA ρ h K (.s2b T x) = strV (ρ x) fun s => K (.slc ⟨T, h.next, 0, 0⟩ s.length) (h.push T (s.map fun b => .int .u8 b.toNat)) := by unfold xA strV; rfl
@[simp ↓] theorem wA_b2s {T : Nat} : xA ρ h K (.b2s T x) = need (isSl (ρ x) = true) (xElems T 1 (ρ x) h fun xs => bindO (bytesOf xs) fun s => K (.str s) h) := rfl
@[simp ↓] theorem wA_same : xA ρ h K (.same x) = strV (ρ x) fun s => K (.str s) h := by unfold xA strV; rfl
@[simp ↓] theorem wA_mkIface {T : Nat} : xA ρ h K (.mkIface T x) = withV (.iface T (ρ x)) fun v => K v h := rfl
@[simp ↓] theorem wA_mkFunc {f : Fn} {a b : List Opd} : xA ρ h K (.mkFunc f a b) = withV (.fn f (a.map ρ) (b.map ρ)) fun v => K v h := rfl
@[simp ↓] theorem wA_mkMap {T : Nat} : xA ρ h K (.mkMap T) = K (.map T h.next) (h.pushMap T []) := rfl
@[simp ↓] theorem wA_makeSlice {T sz bytes : Nat} {zv : AV} : xA ρ h K (.makeSlice T sz bytes zv x y) = xMakeSlice T sz bytes zv (ρ x) (ρ y) h K := rfl
@[simp ↓] theorem wA_sliceStr {lo hi : Option Opd} : xA ρ h K (.sliceStr x lo hi) = xSliceStr (ρ x) (lo.map ρ) (hi.map ρ) fun v => K v h := rfl
@[simp ↓] theorem wA_sliceSl {T sz : Nat} {lo hi : Option Opd} : xA ρ h K (.sliceSl T sz x lo hi) = xSliceSl T sz (ρ x) (lo.map ρ) (hi.map ρ) fun v => K v h := rfl
@[simp ↓] theorem wA_fieldAddr {o : Nat} : xA ρ h K (.fieldAddr o x) = xFieldAddr o (ρ x) fun v => K v h := rfl
def aggV (v : AV) (K : List AV → Prop) (f : Frz K := .mk) : Prop := match v with | .agg cs => K cs | _ => False
@[simp] theorem aggV_agg {cs : List AV} {K : List AV → Prop} : aggV (.agg cs) K = K cs := rfl
@[simp ↓] theorem wA_field {o : Nat} {agg : Option Nat} : xA ρ h K (.field o agg x) = aggV (ρ x) fun cs => xPart agg (.agg cs) o fun v => K v h := by unfold xA aggV; rfl
@[simp ↓] theorem wA_idxAddrS {T sz : Nat} : xA ρ h K (.idxAddrS T sz x y) = xIdxAddrS T sz (ρ x) (ρ y) fun v => K v h := rfl
@[simp ↓] theorem wA_idxAddrA {l sz : Nat} : xA ρ h K (.idxAddrA l sz x y) = xIdxAddrA l sz (ρ x) (ρ y) fun v => K v h := rfl
@[simp ↓] theorem wA_idxStr : xA ρ h K (.idxStr x y) = xIdxStr (ρ x) (ρ y) fun v => K v h := rfl
@[simp ↓] theorem wA_lookup {ck : CK} {zv : AV} {ok : Bool} : xA ρ h K (.lookup ck zv ok x y) = xLookup ck zv ok (ρ x) (ρ y) h fun v => K v h := rfl
@[simp ↓] theorem wA_mapUpdate {ck : CK} : xA ρ h K (.mapUpdate ck x y z) = xMapUpdate ck (ρ x) (ρ y) (ρ z) h fun h' => K .any h' := rfl
@[simp ↓] theorem wA_range : xA ρ h K (.range x) = xRange (ρ x) h K := rfl
@[simp ↓] theorem wA_next : xA ρ h K (.next x) = xNext (ρ x) h K := rfl
@[simp ↓] theorem wA_entry : xA ρ h K (.entry x) = xEntry (ρ x) h fun v => K v h := rfl
@[simp ↓] theorem wA_extract {i : Nat} : xA ρ h K (.extract x i) = xExtract (ρ x) i fun v => K v h := rfl
@[simp ↓] theorem wA_lenStr : xA ρ h K (.lenStr x) = strV (ρ x) fun s => K (.int .i64 s.length) h := by unfold xA strV; rfl
@[simp ↓] theorem wA_lenSl : xA ρ h K (.lenSl x) = xLenSl (ρ x) fun v => K v h := rfl
@[simp ↓] theorem wA_lenMap : xA ρ h K (.lenMap x) = xLenMap (ρ x) h fun v => K v h := rfl
@[simp ↓] theorem wA_lenArr {l : Nat} : xA ρ h K (.lenArr l) = K (.int .i64 l) h := rfl
@[simp ↓] theorem wA_append {T sz bytes : Nat} : xA ρ h K (.append T sz bytes x y) = xAppend T sz bytes (ρ x) (ρ y) h K := rfl
@[simp ↓] theorem wA_copy {T sz : Nat} : xA ρ h K (.copy T sz x y) = xCopy T sz (ρ x) (ρ y) h K := rfl
@[simp ↓] theorem wA_delete {ck : CK} : xA ρ h K (.delete ck x y) = xDelete ck (ρ x) (ρ y) h fun h' => K .any h' := rfl
def mmV (mx : Bool) (l : List AV) (k : AV → Prop) (f : Frz k := .mk) : Prop := match l with | x :: r => bindO (aMMs mx x r) k | [] => False
@[simp ↓] theorem wA_minmax {mx : Bool} {l : List Opd} : xA ρ h K (.minmax mx l) = mmV mx (l.map ρ) fun v => K v h := by unfold xA wpA mmV; rfl
@[simp] theorem mmV_cons {mx : Bool} {v : AV} {r : List AV} : mmV mx (v :: r) k = bindO (aMMs mx v r) k := rfl
attribute [simp] aMMs
@[simp] theorem aMM_max {kd : IntKind} {a b : Int} : aMM true (.int kd a) (.int kd b) = some (.int kd (max a b)) := by
  unfold aMM; simp; split <;> omega
@[simp] theorem aMM_min {kd : IntKind} {a b : Int} : aMM false (.int kd a) (.int kd b) = some (.int kd (min a b)) := by
  unfold aMM; simp; split <;> omega
end
end Gls
