/- The operations of the view: what each does to values and memory, as a condition on what follows. No condition. -/
import Derived.Test.YtfpkajhmelbbbaaGreatDoorGa
set_option linter.unusedVariables false
set_option linter.unusedSimpArgs false
namespace Gls
open Go

inductive Opd where
  | t (n : Nat)
  | c (v : AV)
  | f (n : Nat)
  | u
  deriving Inhabited

inductive CK where | int | str | bool
  deriving Inhabited, DecidableEq

/-- Equality of what? -/
inductive EqK where
  | bool | ptr | iface (const : Bool) | func | map
  | struct (os : List (Nat × CK))
  deriving Inhabited

inductive AOp where
  | mov (x : Opd)
  | pick (c a b : Opd)
  | alloc (T sz : Nat) (z : AV)
  | box (T sz : Nat) (x : Opd)
  | build (z : List AV) (parts : List (Nat × Nat × Opd))
  | mkSlice (T sz len : Nat) (z : List AV) (parts : List (Nat × Nat × Opd))
  | load (agg : Option Nat) (a : Opd)
  | store (sz : Nat) (a x : Opd)
  | nilchk (x : Opd)
  | bin (op : BinOp) (x y : Opd)
  | eq (neg : Bool) (k : EqK) (x y : Opd)
  | un (op : UnOp) (x : Opd)
  | convInt (k : IntKind) (x : Opd)
  | s2b (T : Nat) (x : Opd)
  | b2s (T : Nat) (x : Opd)
  | same (x : Opd)
  | mkIface (T : Nat) (x : Opd)
  | mkFunc (f : Fn) (first caps : List Opd)
  | mkMap (T : Nat)
  | makeSlice (T sz bytes : Nat) (z : AV) (len cap : Opd)
  | sliceStr (x : Opd) (lo hi : Option Opd)
  | sliceSl (T sz : Nat) (x : Opd) (lo hi : Option Opd)
  | fieldAddr (off : Nat) (x : Opd)
  | field (off : Nat) (agg : Option Nat) (x : Opd)
  | idxAddrS (T sz : Nat) (x i : Opd)
  | idxAddrA (len sz : Nat) (x i : Opd)
  | idxStr (x i : Opd)
  | idxArr (len sz : Nat) (agg : Option Nat) (x i : Opd)
  | lookup (ck : CK) (z : AV) (ok : Bool) (m k : Opd)
  | mapUpdate (ck : CK) (m k x : Opd)
  | range (m : Opd)
  | next (it : Opd)
  | entry (it : Opd)
  | extract (x : Opd) (i : Nat)
  | lenStr (x : Opd) | lenSl (x : Opd) | lenMap (x : Opd) | lenArr (n : Nat)
  | append (T sz bytes : Nat) (s x : Opd)
  | copy (T sz : Nat) (d s : Opd)
  | delete (ck : CK) (m k : Opd)
  | minmax (mx : Bool) (l : List Opd)
  deriving Inhabited

/-- Changes of memory. -/
def AH.setArr (h : AH) (t i : Nat) (o : AObj) : AH := { h with arr := fun t' i' => if t' = t ∧ i' = i then o else h.arr t' i' }
def AH.setMap (h : AH) (t i : Nat) (o : AMap) : AH := { h with map := fun t' i' => if t' = t ∧ i' = i then o else h.map t' i' }
def AH.setItr (h : AH) (i : Nat) (o : Option AItr) : AH := { h with itr := fun i' => if i' = i then o else h.itr i' }
def AH.bump (h : AH) (n : Nat) : AH := { h with next := n }
def AH.push (h : AH) (t : Nat) (es : List AV) : AH := (h.setArr t h.next (some es)).bump (h.next + 1)
def AH.pushMap (h : AH) (t : Nat) (es : List (AV × AV)) : AH := (h.setMap t h.next (some es)).bump (h.next + 1)
def AH.pushItr (h : AH) (it : AItr) : AH := (h.setItr h.next (some it)).bump (h.next + 1)
/-- Nobody goes over a map just now. -/
def AH.noItr (h : AH) (t i : Nat) : Prop := ∀ k a, h.itr k = some a → a.src ≠ some (t, i)
/-- No object has a number that hasn't been given. -/
structure AH.WF (h : AH) : Prop where
  arr : ∀ t i, h.next ≤ i → h.arr t i = none
  map : ∀ t i, h.next ≤ i → h.map t i = none
  itr : ∀ i, h.next ≤ i → h.itr i = none
  src : ∀ k a t i, h.itr k = some a → a.src = some (t, i) → i < h.next

/-- A part of a value: some cells of it, or one. -/
def aPart (agg : Option Nat) (e : AV) (off : Nat) (K : AV → Prop) : Prop :=
  match agg with
  | some n => off + n ≤ e.cells.length ∧ K (.agg ((e.cells.drop off).take n))
  | none => ∃ v, e.cells[off]? = some v ∧ K v

/-- A value with some cells set. -/
def putCells (e : AV) (off : Nat) (v : AV) : AV :=
  match e with
  | .agg ds => .agg (ds.take off ++ v.cells ++ ds.drop (off + v.cells.length))
  | _ => v

def AV.known : AV → Bool
  | .any => false
  | _ => true

def flat (v : AV) : Prop := ∀ u ∈ v.cells, u.noAgg = true

/-- Equality of a struct's cells: of numbers, texts, bools, at some places. -/
def eqCell : CK → AV → AV → Option Bool
  | .int, .int k a, .int k' b => if k = k' then some (a == b) else none
  | .str, .str a, .str b => some (a == b)
  | .bool, .bool a, .bool b => some (a == b)
  | _, _, _ => none

def eqCells (xs ys : List AV) : List (Nat × CK) → Option Bool
  | [] => some true
  | (o, k) :: os => match xs[o]?, ys[o]? with
    | some x, some y => match eqCell k x y with
      | some true => eqCells xs ys os
      | some false => some false
      | none => none
    | _, _ => none

def aEq : EqK → AV → AV → Option Bool
  | .bool, .bool a, .bool b => some (a == b)
  | .ptr, .nilp, .nilp => some true
  | .ptr, .nilp, .ptr _ => some false
  | .ptr, .nilp, .iptr _ _ => some false
  | .ptr, .ptr _, .nilp => some false
  | .ptr, .iptr _ _, .nilp => some false
  | .iface true, .nili, .nili => some true
  | .iface _, .nili, .iface _ _ => some false
  | .iface _, .iface _ _, .nili => some false
  | .func, .nilf, .nilf => some true
  | .func, .nilf, .fn _ _ _ => some false
  | .func, .fn _ _ _, .nilf => some false
  | .map, .nilm, .nilm => some true
  | .map, .nilm, .map _ _ => some false
  | .map, .nilm, .imap _ => some false
  | .map, .map _ _, .nilm => some false
  | .map, .imap _, .nilm => some false
  | .struct os, .agg xs, .agg ys => eqCells xs ys os
  | _, _, _ => none

def aBin (op : BinOp) (x y : AV) (K : AV → Prop) : Prop :=
  match x, y with
  | .int k a, .int k' b =>
    match op with
    | .shl => 0 ≤ b ∧ K (.int k (k.wrap (a * 2 ^ (min b.toNat k.bits))))
    | .shr => 0 ≤ b ∧ K (.int k (a.fdiv (2 ^ (min b.toNat k.bits))))
    | .add => k = k' ∧ K (.int k (k.wrap (a + b)))
    | .sub => k = k' ∧ K (.int k (k.wrap (a - b)))
    | .mul => k = k' ∧ K (.int k (k.wrap (a * b)))
    | .quo => k = k' ∧ b ≠ 0 ∧ K (.int k (k.wrap (a.tdiv b)))
    | .rem => k = k' ∧ b ≠ 0 ∧ K (.int k (a.tmod b))
    | .and => k = k' ∧ K (.int k (k.wrap (BitVec.ofInt k.bits a &&& BitVec.ofInt k.bits b).toNat))
    | .or => k = k' ∧ K (.int k (k.wrap (BitVec.ofInt k.bits a ||| BitVec.ofInt k.bits b).toNat))
    | .xor => k = k' ∧ K (.int k (k.wrap (BitVec.ofInt k.bits a ^^^ BitVec.ofInt k.bits b).toNat))
    | .andNot => k = k' ∧ K (.int k (k.wrap (BitVec.ofInt k.bits a &&& ~~~ BitVec.ofInt k.bits b).toNat))
    | .eql => k = k' ∧ K (.bool (a == b))
    | .neq => k = k' ∧ K (.bool (a != b))
    | .lss => k = k' ∧ K (.bool (a < b))
    | .leq => k = k' ∧ K (.bool (a ≤ b))
    | .gtr => k = k' ∧ K (.bool (a > b))
    | .geq => k = k' ∧ K (.bool (a ≥ b))
  | .str a, .str b =>
    match op with
    | .add => a.length + b.length ≤ 9223372036854775807 ∧ K (.str (a ++ b))
    | .eql => K (.bool (a == b))
    | .neq => K (.bool !(a == b))
    | .lss => K (.bool (Op.bytesLess a b))
    | .leq => K (.bool (Op.bytesLess a b || a == b))
    | .gtr => K (.bool !(Op.bytesLess a b || a == b))
    | .geq => K (.bool !(Op.bytesLess a b))
    | _ => False
  | _, _ => False

def aUn (op : UnOp) (x : AV) (K : AV → Prop) : Prop :=
  match op, x with
  | .not, .bool b => K (.bool !b)
  | .neg, .int k n => K (.int k (k.wrap (0 - n)))
  | .xor, .int k n => K (.int k (k.wrap (BitVec.ofInt k.bits (if k.signed then -1 else k.max) ^^^ BitVec.ofInt k.bits n).toNat))
  | _, _ => False

def aLoad (agg : Option Nat) (p : AV) (h : AH) (K : AV → Prop) : Prop :=
  match p with
  | .ptr r => ∃ es, h.arr r.ty r.id = some es ∧ ∃ e, es[r.idx]? = some e ∧ aPart agg e r.off K
  | .iptr e off => aPart agg e off K
  | _ => False

def aStore (sz : Nat) (p v : AV) (h : AH) (K : AH → Prop) : Prop :=
  match p with
  | .ptr r => ∃ es, h.arr r.ty r.id = some es ∧ ∃ e, es[r.idx]? = some e ∧ (0 < sz ∧ r.off + sz ≤ e.cells.length ∧ v.cells.length = sz ∧ flat v) ∧
      K (h.setArr r.ty r.id (some (es.set r.idx (putCells e r.off v))))
  | _ => False

/-- The cells of a value that is built: zero cells with parts laid over. -/
def fillA (cells : List AV) : List (Nat × Nat × AV) → Option (List AV)
  | [] => some cells
  | (off, size, v) :: rest => if v.cells.length = size ∧ off + size ≤ cells.length then fillA (cells.take off ++ v.cells ++ cells.drop (off + size)) rest else none

def chunk1 (sz : Nat) (l : List AV) : AV := if sz = 1 then (match l.take 1 with | [x] => x | _ => .any) else .agg (l.take sz)

/-- Cells as elements of a size each. -/
def chunks (sz : Nat) : Nat → List AV → List AV
  | 0, _ => []
  | n + 1, l => chunk1 sz l :: chunks sz n (l.drop sz)

def aBound (x : Option AV) (dflt hi : Nat) (K : Nat → Prop) : Prop :=
  match x with
  | none => K dflt
  | some (.int _ i) => (0 ≤ i ∧ i ≤ hi) ∧ K i.toNat
  | _ => False

def aSliceStr (x : AV) (lo hi : Option AV) (K : AV → Prop) : Prop :=
  match x with
  | .str s => aBound hi s.length s.length fun h => aBound lo 0 h fun l => K (.str ((s.take h).drop l))
  | _ => False

def aSliceSl (T sz : Nat) (x : AV) (lo hi : Option AV) (K : AV → Prop) : Prop :=
  match x with
  | .nils => aBound hi 0 0 fun h => aBound lo 0 h fun _ => K .nils
  | .vals sz' l => sz' = sz ∧ aBound hi l.length l.length fun h => aBound lo 0 h fun a => K (.vals sz ((l.take h).drop a))
  | .slc r n => r.ty = T ∧ aBound hi n n fun h => aBound lo 0 h fun a => K (.slc { r with idx := r.idx + a } (h - a))
  | _ => False

def aIdxAddrS (T sz : Nat) (x i : AV) (K : AV → Prop) : Prop :=
  match x, i with
  | .vals sz' l, .int _ i => sz' = sz ∧ 0 ≤ i ∧ ∃ e, l[i.toNat]? = some e ∧ K (.iptr e 0)
  | .slc r n, .int _ i => r.ty = T ∧ (0 ≤ i ∧ i < n) ∧ K (.ptr { r with idx := r.idx + i.toNat })
  | _, _ => False

def aIdxAddrA (len sz : Nat) (x i : AV) (K : AV → Prop) : Prop :=
  match x, i with
  | .ptr r, .int _ i => (0 ≤ i ∧ i < len) ∧ K (.ptr { r with off := r.off + i.toNat * sz })
  | .iptr e off, .int _ i => (0 ≤ i ∧ i < len) ∧ K (.iptr e (off + i.toNat * sz))
  | _, _ => False

def aFieldAddr (o : Nat) (x : AV) (K : AV → Prop) : Prop :=
  match x with
  | .ptr r => K (.ptr { r with off := r.off + o })
  | .iptr e off => K (.iptr e (off + o))
  | _ => False

def aIdxStr (x i : AV) (K : AV → Prop) : Prop :=
  match x, i with
  | .str s, .int _ i => 0 ≤ i ∧ ∃ b, s[i.toNat]? = some b ∧ K (.int .u8 b.toNat)
  | _, _ => False

/-- Look-up of a key: numbers and texts alone. -/
def aFind (ck : CK) (k : AV) : List (AV × AV) → Option (Option AV)
  | [] => some none
  | e :: es => match eqCell ck k e.1 with
    | some true => some (some e.2)
    | some false => aFind ck k es
    | none => none

/-- The entries behind a store. -/
def aPut (ck : CK) (k v : AV) : List (AV × AV) → Option (List (AV × AV))
  | [] => some [(k, v)]
  | e :: es => match eqCell ck k e.1 with
    | some true => some ((k, v) :: es)
    | some false => (aPut ck k v es).map (e :: ·)
    | none => none

def aDrop (ck : CK) (k : AV) : List (AV × AV) → Option (List (AV × AV))
  | [] => some []
  | e :: es => match eqCell ck k e.1 with
    | some true => some es
    | some false => (aDrop ck k es).map (e :: ·)
    | none => none

def aEnts (m : AV) (h : AH) (K : List (AV × AV) → Prop) : Prop :=
  match m with
  | .nilm => K []
  | .map t i => ∃ es, h.map t i = some es ∧ K es
  | .imap es => K es
  | _ => False

def aLookup (ck : CK) (z : AV) (ok : Bool) (m k : AV) (h : AH) (K : AV → Prop) : Prop :=
  aEnts m h fun es => ∃ r, aFind ck k es = some r ∧ K (if ok then .tup [r.getD z, .bool r.isSome] else r.getD z)

def aMapUpdate (ck : CK) (m k v : AV) (h : AH) (K : AH → Prop) : Prop :=
  match m with
  | .map t i => h.noItr t i ∧ ∃ es, h.map t i = some es ∧ ∃ es', aPut ck k v es = some es' ∧ K (h.setMap t i (some es'))
  | _ => False

def aDelete (ck : CK) (m k : AV) (h : AH) (K : AH → Prop) : Prop :=
  match m with
  | .nilm => K h
  | .map t i => h.noItr t i ∧ ∃ es, h.map t i = some es ∧ ∃ es', aDrop ck k es = some es' ∧ K (h.setMap t i (some es'))
  | _ => False

def aLenMap (m : AV) (h : AH) (K : AV → Prop) : Prop := aEnts m h fun es => K (.int .i64 es.length)

def mapId : AV → Option (Nat × Nat)
  | .map t i => some (t, i)
  | _ => none

def aRange (m : AV) (h : AH) (K : AV → AH → Prop) : Prop :=
  aEnts m h fun es => K (.itr h.next) (h.pushItr ⟨mapId m, es, none⟩)

def aNext (it : AV) (h : AH) (K : AV → AH → Prop) : Prop :=
  match it with
  | .itr i => ∃ a, h.itr i = some a ∧ (a.rest = [] → K (.tup [.bool false]) h) ∧
      ∀ j e, a.rest[j]? = some e → K (.tup [.bool true, e.1, e.2]) (h.setItr i (some ⟨a.src, a.rest.eraseIdx j, some e⟩))
  | _ => False

def aEntry (it : AV) (h : AH) (K : AV → Prop) : Prop :=
  match it with
  | .itr i => ∃ a, h.itr i = some a ∧ ∃ e, a.cur = some e ∧ K (.tup [e.1, e.2])
  | _ => False

def aExtract (x : AV) (i : Nat) (K : AV → Prop) : Prop :=
  match x with
  | .tup vs => ∃ v, vs[i]? = some v ∧ K v
  | _ => False

/-- The elements of a source that is read: of a slice, or a text's bytes. -/
def aElems (T sz : Nat) (x : AV) (h : AH) (K : List AV → Prop) : Prop :=
  match x with
  | .nils => K []
  | .vals sz' l => sz' = sz ∧ K l
  | .slc r n => r.ty = T ∧ r.off = 0 ∧ ∃ es, h.arr r.ty r.id = some es ∧ r.idx + n ≤ es.length ∧ K ((es.drop r.idx).take n)
  | .str s => sz = 1 ∧ K (s.map fun b => .int .u8 b.toNat)
  | _ => False

def isSl : AV → Bool
  | .nils => true
  | .vals _ _ => true
  | .slc _ _ => true
  | _ => false

def aLenSl (x : AV) (K : AV → Prop) : Prop :=
  match x with
  | .nils => K (.int .i64 0)
  | .vals _ l => K (.int .i64 l.length)
  | .slc _ n => K (.int .i64 n)
  | _ => False

def setRange (es : List AV) (i : Nat) (xs : List AV) : List AV := es.take i ++ xs ++ es.drop (i + xs.length)

def aAppend (T sz bytes : Nat) (s x : AV) (h : AH) (K : AV → AH → Prop) : Prop :=
  aElems T sz x h fun xs => (0 < sz ∧ ∀ e ∈ xs, flat e ∧ e.cells.length = sz) ∧
    match s with
    | .nils => xs.length * bytes ≤ 2 ^ 47 ∧ K (.slc ⟨T, h.next, 0, 0⟩ xs.length) (h.push T xs)
    | .slc r n => r.ty = T ∧ r.off = 0 ∧ ∃ es, h.arr r.ty r.id = some es ∧ r.idx + n ≤ es.length ∧
        if r.idx + n + xs.length ≤ es.length ∧ r.idx + n < es.length then K (.slc r (n + xs.length)) (h.setArr r.ty r.id (some (setRange es (r.idx + n) xs)))
        else (n + xs.length) * bytes ≤ 2 ^ 47 ∧ K (.slc ⟨T, h.next, 0, 0⟩ (n + xs.length)) ((h.setArr r.ty r.id none).push T ((es.drop r.idx).take n ++ xs))
    | _ => False

def aCopy (T sz : Nat) (d s : AV) (h : AH) (K : AV → AH → Prop) : Prop :=
  aElems T sz s h fun xs => (∀ e ∈ xs, flat e ∧ e.cells.length = sz) ∧
    match d with
    | .nils => K (.int .i64 0) h
    | .slc r n => r.ty = T ∧ r.off = 0 ∧ ∃ es, h.arr r.ty r.id = some es ∧ r.idx + n ≤ es.length ∧
        K (.int .i64 ((min xs.length n : Nat) : Int)) (h.setArr r.ty r.id (some (setRange es r.idx (xs.take n))))
    | _ => False

def aMakeSlice (T sz bytes : Nat) (z len cap : AV) (h : AH) (K : AV → AH → Prop) : Prop :=
  match len, cap with
  | .int _ l, .int _ c => (0 < sz ∧ z.cells.length = sz ∧ flat z) ∧ (0 ≤ l ∧ l ≤ c ∧ c ≤ 9223372036854775807 ∧ bytes * c ≤ 2 ^ 48) ∧
      K (.slc ⟨T, h.next, 0, 0⟩ l.toNat) (h.push T (List.replicate c.toNat z))
  | _, _ => False

def bytesOf : List AV → Option (List UInt8)
  | [] => some []
  | .int .u8 n :: l => (bytesOf l).map (UInt8.ofNat n.toNat :: ·)
  | _ => none

def aMM (mx : Bool) (x y : AV) : Option AV :=
  match x, y with
  | .int k a, .int k' b => if k = k' then some (.int k (if mx then (if b > a then b else a) else (if b < a then b else a))) else none
  | _, _ => none

def aMMs (mx : Bool) : AV → List AV → Option AV
  | x, [] => some x
  | x, y :: l => (aMM mx x y).bind fun z => aMMs mx z l

section
variable (ρ : Opd → AV) (h : AH) (K : AV → AH → Prop)

/-- What an operation does; K: what must hold behind it. -/
def wpA : AOp → Prop
  | .mov x => K (ρ x) h
  | .pick c a b => match ρ c with | .bool t => K (if t then ρ a else ρ b) h | _ => False
  | .alloc T sz z => (0 < sz ∧ z.cells.length = sz ∧ flat z) ∧ K (.ptr ⟨T, h.next, 0, 0⟩) (h.push T [z])
  | .box T sz x => (0 < sz ∧ (ρ x).cells.length = sz ∧ flat (ρ x)) ∧ K (.ptr ⟨T, h.next, 0, 0⟩) (h.push T [ρ x])
  | .build z ps => (∀ q ∈ ps, (ρ q.2.2).known = true) ∧ ∃ cs, fillA z (ps.map fun (o, s, x) => (o, s, ρ x)) = some cs ∧ K (.agg cs) h
  | .mkSlice T sz len z ps => (0 < sz ∧ z.length = len * sz ∧ ∀ q ∈ ps, (ρ q.2.2).known = true) ∧ ∃ cs, fillA z (ps.map fun (o, s, x) => (o, s, ρ x)) = some cs ∧ (∀ u ∈ cs, u.noAgg = true) ∧
      K (.slc ⟨T, h.next, 0, 0⟩ len) (h.push T (chunks sz len cs))
  | .load agg a => aLoad agg (ρ a) h fun v => K v h
  | .store sz a x => aStore sz (ρ a) (ρ x) h fun h' => K .any h'
  | .nilchk x => match ρ x with | .ptr r => K (.ptr r) h | .iptr e o => K (.iptr e o) h | _ => False
  | .bin op x y => aBin op (ρ x) (ρ y) fun v => K v h
  | .eq neg k x y => ∃ b, aEq k (ρ x) (ρ y) = some b ∧ K (.bool (if neg then !b else b)) h
  | .un op x => aUn op (ρ x) fun v => K v h
  | .convInt k x => match ρ x with | .int _ n => K (.int k (k.wrap n)) h | _ => False
  | .s2b T x => match ρ x with | .str s => K (.slc ⟨T, h.next, 0, 0⟩ s.length) (h.push T (s.map fun b => .int .u8 b.toNat)) | _ => False
  | .b2s T x => isSl (ρ x) = true ∧ aElems T 1 (ρ x) h fun xs => ∃ s, bytesOf xs = some s ∧ K (.str s) h
  | .same x => match ρ x with | .str s => K (.str s) h | _ => False
  | .mkIface T x => K (.iface T (ρ x)) h
  | .mkFunc f a b => K (.fn f (a.map ρ) (b.map ρ)) h
  | .mkMap T => K (.map T h.next) (h.pushMap T [])
  | .makeSlice T sz bytes z l c => aMakeSlice T sz bytes z (ρ l) (ρ c) h K
  | .sliceStr x lo hi => aSliceStr (ρ x) (lo.map ρ) (hi.map ρ) fun v => K v h
  | .sliceSl T sz x lo hi => aSliceSl T sz (ρ x) (lo.map ρ) (hi.map ρ) fun v => K v h
  | .fieldAddr o x => aFieldAddr o (ρ x) fun v => K v h
  | .field o agg x => match ρ x with | .agg cs => aPart agg (.agg cs) o fun v => K v h | _ => False
  | .idxAddrS T sz x i => aIdxAddrS T sz (ρ x) (ρ i) fun v => K v h
  | .idxAddrA len sz x i => aIdxAddrA len sz (ρ x) (ρ i) fun v => K v h
  | .idxStr x i => aIdxStr (ρ x) (ρ i) fun v => K v h
  | .idxArr len sz agg x i => match ρ x, ρ i with | .agg cs, .int _ i => (0 ≤ i ∧ i < len) ∧ aPart agg (.agg cs) (i.toNat * sz) fun v => K v h | _, _ => False
  | .lookup ck z ok m k => aLookup ck z ok (ρ m) (ρ k) h fun v => K v h
  | .mapUpdate ck m k x => aMapUpdate ck (ρ m) (ρ k) (ρ x) h fun h' => K .any h'
  | .range m => aRange (ρ m) h K
  | .next it => aNext (ρ it) h K
  | .entry it => aEntry (ρ it) h fun v => K v h
  | .extract x i => aExtract (ρ x) i fun v => K v h
  | .lenStr x => match ρ x with | .str s => K (.int .i64 s.length) h | _ => False
  | .lenSl x => aLenSl (ρ x) fun v => K v h
  | .lenMap x => aLenMap (ρ x) h fun v => K v h
  | .lenArr n => K (.int .i64 n) h
  | .append T sz bytes s x => aAppend T sz bytes (ρ s) (ρ x) h K
  | .copy T sz d s => aCopy T sz (ρ d) (ρ s) h K
  | .delete ck m k => aDelete ck (ρ m) (ρ k) h fun h' => K .any h'
  | .minmax mx l => match l.map ρ with | x :: r => ∃ v, aMMs mx x r = some v ∧ K v h | [] => False
end

/-- Does an operation leave memory alone? -/
def AOp.quiet : AOp → Bool
  | .alloc .. | .box .. | .mkSlice .. | .store .. | .s2b .. | .mkMap .. | .makeSlice .. | .mapUpdate .. | .range .. | .next .. | .append .. | .copy .. | .delete .. => false
  | _ => true

/-- Does what it answers hang on memory? -/
def AOp.looks : AOp → Bool
  | .load .. | .lookup .. | .b2s .. | .entry .. | .lenMap .. => true
  | _ => false

end Gls
