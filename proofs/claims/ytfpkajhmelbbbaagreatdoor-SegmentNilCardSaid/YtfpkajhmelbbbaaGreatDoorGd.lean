/- From the model's operations to the view's: what is looked up in the program's types is looked up once. No condition. -/
import Derived.Test.YtfpkajhmelbbbaaGreatDoorGc
import Derived.Laws.Cells
import Derived.Laws.IdiomCopy
import Derived.Laws.Entries
set_option linter.unusedVariables false
set_option linter.unusedSimpArgs false
namespace Gls
open Go

/-- A constant of one cell. -/
def absS : Value → AV
  | .bool b => .bool b
  | .int k n => .int k n
  | .float k b => .float k b
  | .string s => .str s.data.toList
  | .pointer none => .nilp
  | .slice none 0 0 => .nils
  | .map none => .nilm
  | .nilFunc => .nilf
  | .nilIface => .nili
  | _ => .any

def absC : Value → AV
  | .agg cs => .agg (cs.toList.map absS)
  | v => absS v

theorem absS_rel (m : Emb) (v : Value) : VRel m (absS v) v := by
  unfold absS
  split
  · exact .bool _
  · exact .int _ _
  · exact .float _ _
  · rename_i s; exact (by cases s; rename_i d; exact .str d.toList : VRel m (.str s.data.toList) (.string s))
  · exact .nilp
  · exact .nils _
  · exact .nilm
  · exact .nilf
  · exact .nili
  · exact .any _

theorem absC_rel (m : Emb) (v : Value) : VRel m (absC v) v := by
  unfold absC
  split
  · rename_i cs
    refine .agg _ _ (by simp) fun i v c h1 h2 => ?_
    simp only [List.getElem?_map, Array.getElem?_toList, h2, Option.map_some, Option.some.injEq] at h1
    subst h1; exact absS_rel m c
  · exact absS_rel m _

def cOpd : Operand → Opd
  | .tmp t => .t t
  | .const v => .c (absC v)
  | .func f => .f f
  | .global _ => .u

abbrev Env := Nat → AV

def ev (σ : Env) : Opd → AV
  | .t n => σ n
  | .c v => v
  | .f k => .fn (.func k) [] []
  | .u => .any

/-- Of what kind is a key? -/
def ckOf : TypeDesc → Option CK
  | .int _ => some .int
  | .string => some .str
  | _ => none

/-- A struct's cells that are held against each other: whole fields of one cell each. -/
def eqOffs (P : Program) : List Field → Option (List (Nat × CK))
  | [] => some []
  | f :: fs => if f.name = "_" then none else match P.underlying f.type with
    | some (.int _) => (eqOffs P fs).map ((f.offset, .int) :: ·)
    | some .string => (eqOffs P fs).map ((f.offset, .str) :: ·)
    | some .bool => (eqOffs P fs).map ((f.offset, .bool) :: ·)
    | _ => none

def isC : Operand → Bool
  | .const _ => true
  | _ => false

def eqKind (P : Program) (xt : TypeId) (x y : Operand) : Option EqK :=
  match P.underlying xt with
  | some .bool => some .bool
  | some (.pointer _) => some .ptr
  | some (.interface _) => some (.iface (isC x || isC y))
  | some (.func _ _ _) => some .func
  | some (.map _ _) => some .map
  | some (.struct fs) => if P.stoodInHeld xt || P.eqGuardType P.depth xt then none else (eqOffs P fs.toList).map .struct
  | _ => none

def aggOf (P : Program) (t : TypeId) : Option (Option Nat) :=
  match P.underlying t with
  | some (.struct _) | some (.array _ _) => (P.info? t).map fun i => some i.size
  | some _ => some none
  | none => none

def zeroOf (P : Program) (t : TypeId) : Option Value := (P.info? t).bind (·.zero)
def bytesOf? (P : Program) (t : TypeId) : Option Nat := (P.info? t).map (·.bytes)

def cParts (P : Program) (place : Nat → Option (Nat × Nat)) (ps : List (Nat × Operand)) : Option (List (Nat × Nat × Opd)) :=
  ps.mapM fun (i, x) => (place i).map fun (o, s) => (o, s, cOpd x)

def fieldPlaces (P : Program) (fields : Array Field) : Option (Array (Nat × Nat)) := fields.mapM fun f => (sizeOf? P f.type).map fun s => (f.offset, s)

/-- What can be appended. -/
def srcDesc : TypeDesc → Bool
  | .slice _ => true
  | .string => true
  | _ => false

def cBuiltin (P : Program) (b : Builtin) (tys : Array TypeId) (args : Array Operand) : Option AOp :=
  match b, args.toList with
  | .len, [x] => do
    let t ← tys[0]?
    match ← P.underlying t with
    | .string => some (.lenStr (cOpd x))
    | .slice _ => some (.lenSl (cOpd x))
    | .map _ _ => some (.lenMap (cOpd x))
    | .array n _ => some (.lenArr n)
    | .pointer a => match ← P.underlying a with | .array n _ => some (.lenArr n) | _ => none
    | _ => none
  | .append, [s, x] => do
    let t ← tys[0]?
    let u ← tys[1]?
    match ← P.underlying t with
    | .slice e => do
      let z ← zeroOf P e
      let b ← bytesOf? P e
      if srcDesc (← P.underlying u) = true ∧ sizeOf? P e = some z.cells.size ∧ b ≠ 0 then some (.append e z.cells.size b (cOpd s) (cOpd x)) else none
    | _ => none
  | .copy, [d, s] => do
    let t ← tys[0]?
    match ← P.underlying t with
    | .slice e => do some (.copy e (← sizeOf? P e) (cOpd d) (cOpd s))
    | _ => none
  | .delete, [m, k] => do
    let t ← tys[0]?
    match ← P.underlying t with
    | .map kt _ => do some (.delete (← ckOf (← P.underlying kt)) (cOpd m) (cOpd k))
    | _ => none
  | .min, l => some (.minmax false (l.map cOpd))
  | .max, l => some (.minmax true (l.map cOpd))
  | _, _ => none

def cOp (P : Program) (o : Oper) : Option AOp :=
  match o.op with
  | .move x | .assign x => some (.mov (cOpd x))
  | .pick c a b => some (.pick (cOpd c) (cOpd a) (cOpd b))
  | .alloc e => do
    let z ← zeroOf P e
    if sizeOf? P e = some z.cells.size then some (.alloc e z.cells.size (absC z)) else none
  | .box e x => do some (.box e (← sizeOf? P e) (cOpd x))
  | .build t ps => do
    let z ← zeroOf P t
    match ← P.underlying t with
    | .struct fs => do
      let pl ← fieldPlaces P fs
      some (.build (absC z).cells (← cParts P (pl[·]?) ps.toList))
    | .array _ e => do
      let s ← sizeOf? P e
      some (.build (absC z).cells (← cParts P (fun i => some (i * s, s)) ps.toList))
    | _ => none
  | .buildSlice t len ps => do
    match ← P.underlying t with
    | .slice e => do
      let s ← sizeOf? P e
      let z ← zeroOf P e
      if len * s > 2 ^ 24 ∨ z.cells.size ≠ s then none else
      some (.mkSlice e s len ((List.range (len * s)).map fun i => absS (z.cells[i % z.cells.size]!)) (← cParts P (fun i => some (i * s, s)) ps.toList))
    | _ => none
  | .load t a => do some (.load (← aggOf P t) (cOpd a))
  | .store t a x => do some (.store (← sizeOf? P t) (cOpd a) (cOpd x))
  | .nilCheck x => some (.nilchk (cOpd x))
  | .binOp op xt x y _ => do
    match ← P.underlying xt with
    | .int _ | .string => some (.bin op (cOpd x) (cOpd y))
    | _ => do
      let k ← eqKind P xt x y
      match op with
      | .eql => some (.eq false k (cOpd x) (cOpd y))
      | .neq => some (.eq true k (cOpd x) (cOpd y))
      | _ => none
  | .unOp op _ x => some (.un op (cOpd x))
  | .convert src dst x => do
    match ← P.underlying src, ← P.underlying dst with
    | _, .int k => some (.convInt k (cOpd x))
    | .string, .string => some (.same (cOpd x))
    | .string, .slice e => do match ← P.underlying e with | .int .u8 => (if sizeOf? P e = some 1 then some (.s2b e (cOpd x)) else none) | _ => none
    | .slice e, .string => do match ← P.underlying e with | .int .u8 => (if sizeOf? P e = some 1 then some (.b2s e (cOpd x)) else none) | _ => none
    | _, _ => none
  | .makeInterface t x => do match ← P.underlying t with | .interface _ => none | _ => some (.mkIface t (cOpd x))
  | .makeFunc f a b => some (.mkFunc f (a.toList.map cOpd) (b.toList.map cOpd))
  | .makeMap t none => some (.mkMap t)
  | .makeSlice t l c => do
    match ← P.underlying t with
    | .slice e => do
      let z ← zeroOf P e
      if sizeOf? P e = some z.cells.size then some (.makeSlice e z.cells.size (← bytesOf? P e) (absC z) (cOpd l) (cOpd c)) else none
    | _ => none
  | .slice t x lo hi none => do
    match ← P.underlying t with
    | .string => some (.sliceStr (cOpd x) (lo.map cOpd) (hi.map cOpd))
    | .slice e => do some (.sliceSl e (← sizeOf? P e) (cOpd x) (lo.map cOpd) (hi.map cOpd))
    | _ => none
  | .fieldAddr t x f => do
    match ← P.underlying t with
    | .struct fs => do
      let fd ← fs[f]?
      let s ← sizeOf? P fd.type
      if s = 0 then none else some (.fieldAddr fd.offset (cOpd x))
    | _ => none
  | .field t x f => do
    match ← P.underlying t with
    | .struct fs => do
      let fd ← fs[f]?
      some (.field fd.offset (← aggOf P fd.type) (cOpd x))
    | _ => none
  | .indexAddr t x i => do
    match ← P.underlying t with
    | .slice e => do some (.idxAddrS e (← sizeOf? P e) (cOpd x) (cOpd i))
    | .array n e => do some (.idxAddrA n (← sizeOf? P e) (cOpd x) (cOpd i))
    | _ => none
  | .index t x i => do
    match ← P.underlying t with
    | .string => some (.idxStr (cOpd x) (cOpd i))
    | .array n e => do some (.idxArr n (← sizeOf? P e) (← aggOf P e) (cOpd x) (cOpd i))
    | _ => none
  | .lookup t m k ok => do
    match ← P.underlying t with
    | .map kt e => do some (.lookup (← ckOf (← P.underlying kt)) (absC (← zeroOf P e)) ok (cOpd m) (cOpd k))
    | _ => none
  | .mapUpdate t m k x => do
    match ← P.underlying t with
    | .map kt _ => do some (.mapUpdate (← ckOf (← P.underlying kt)) (cOpd m) (cOpd k) (cOpd x))
    | _ => none
  | .range t x => do match ← P.underlying t with | .map _ _ => some (.range (cOpd x)) | _ => none
  | .next it false => some (.next (cOpd it))
  | .entry it => some (.entry (cOpd it))
  | .extract x i => some (.extract (cOpd x) i)
  | .call { callee := .builtin b, args, argTypes } => cBuiltin P b argTypes args
  | _ => none

end Gls
