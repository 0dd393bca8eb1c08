/- An abstract view of the model's values and memory: immutable memory as pure nested values, live memory by references, and the relation between this view and a world. No condition. -/
import Derived.Calls
import Derived.Orders
import Derived.Below
import Derived.Laws.Sem
import Derived.Lib.LaidTab
import Derived.Lib.ItoaNum
set_option linter.unusedVariables false
set_option linter.unusedSimpArgs false
namespace Gls
open Go

/-- A place in live memory: an object by its type and number, an element of it, a cell of that. -/
structure Ref where
  ty : Nat
  id : Nat
  idx : Nat
  off : Nat

inductive AV where
  | any
  | bool (b : Bool)
  | int (k : IntKind) (n : Int)
  | float (k : FloatKind) (bits : Nat)
  | str (s : List UInt8)
  | nilp
  | ptr (r : Ref)
  | iptr (e : AV) (off : Nat)
  | nils
  | slc (r : Ref) (n : Nat)
  | vals (sz : Nat) (l : List AV)
  | nilm
  | map (ty id : Nat)
  | imap (es : List (AV × AV))
  | itr (id : Nat)
  | fn (f : Fn) (first caps : List AV)
  | nilf
  | iface (t : Nat) (v : AV)
  | nili
  | agg (cs : List AV)
  | tup (vs : List AV)
  deriving Inhabited

/-- The cells of a value. -/
def AV.cells : AV → List AV
  | .agg cs => cs
  | v => [v]

/-- The cells of values one behind the other. -/
def flatC (l : List AV) : List AV := l.flatMap AV.cells

def AV.noAgg : AV → Bool
  | .agg _ => false
  | .tup _ => false
  | .any => false
  | _ => true

structure Loc where
  blk : Nat
  base : Nat
  sz : Nat
  num : Nat
  cnt : Nat

/-- Where the view's objects lie: live ones, maps, iterators; which blocks never change any more; the world of the beginning. -/
structure Emb where
  loc : Nat → Nat → Option Loc
  mloc : Nat → Nat → Option Nat
  iloc : Nat → Option Nat
  imm : Nat → Option Obj
  w0 : World

def Emb.icell (m : Emb) (b o : Nat) : Option Value :=
  match m.imm b with
  | some (.cells c _ _) => c[o]?
  | _ => none

def Loc.addr (L : Loc) (r : Ref) : Addr := ⟨L.blk, L.base + r.idx * L.sz + r.off, none⟩

structure Emb.le (m m' : Emb) : Prop where
  loc : ∀ t i L, m.loc t i = some L → m'.loc t i = some L
  mloc : ∀ t i L, m.mloc t i = some L → m'.mloc t i = some L
  iloc : ∀ i L, m.iloc i = some L → m'.iloc i = some L
  imm : ∀ b o, m.imm b = some o → m'.imm b = some o
  w0 : m'.w0 = m.w0

theorem Emb.le.refl (m : Emb) : m.le m := ⟨fun _ _ _ h => h, fun _ _ _ h => h, fun _ _ h => h, fun _ _ h => h, rfl⟩
theorem Emb.le.trans {a b c : Emb} (h : a.le b) (k : b.le c) : a.le c :=
  ⟨fun t i L e => k.loc t i L (h.loc t i L e), fun t i L e => k.mloc t i L (h.mloc t i L e), fun i L e => k.iloc i L (h.iloc i L e), fun b o e => k.imm b o (h.imm b o e), k.w0.trans h.w0⟩

theorem Emb.le.icell {m m' : Emb} (h : m.le m') {b o : Nat} {v : Value} (e : m.icell b o = some v) : m'.icell b o = some v := by
  unfold Emb.icell at *
  split at e
  · rename_i c t f hb
    rw [h.imm b _ hb]; exact e
  · cases e

/-- A map's entries have stamps of their own, all of the past. -/
structure Born (ces : Array MapEntry) (clock : Nat) : Prop where
  one : ∀ (i j : Nat) (c d : MapEntry), ces[i]? = some c → ces[j]? = some d → c.born = d.born → i = j
  past : ∀ (i : Nat) (c : MapEntry), ces[i]? = some c → c.born < clock

/-- Does a value of the view stand for one of the model's? -/
inductive VRel (m : Emb) : AV → Value → Prop
  | any v : VRel m .any v
  | bool b : VRel m (.bool b) (.bool b)
  | int k n : VRel m (.int k n) (.int k n)
  | float k n : VRel m (.float k n) (.float k n)
  | str s : VRel m (.str s) (.string ⟨s.toArray⟩)
  | nilp : VRel m .nilp (.pointer none)
  | ptr r L : m.loc r.ty r.id = some L → VRel m (.ptr r) (.pointer (some (L.addr r)))
  | iptr e off b o (f : Nat → Value) : (∀ j, j < e.cells.length → m.icell b (o + j) = some (f j)) →
      (∀ (j : Nat) (v : AV), e.cells[j]? = some v → VRel m v (f j)) → VRel m (.iptr e off) (.pointer (some ⟨b, o + off, none⟩))
  | nils a : VRel m .nils (.slice a 0 0)
  | slc r n L c : m.loc r.ty r.id = some L → n ≤ c → 0 < L.sz → r.off = 0 → L.base + (r.idx + c) * L.sz ≤ L.num → L.cnt ≤ r.idx + c → 0 < c →
      VRel m (.slc r n) (.slice (some (L.addr r)) n c)
  | slc0 r L a : m.loc r.ty r.id = some L → L.cnt ≤ r.idx → VRel m (.slc r 0) (.slice a 0 0)
  | vals0 sz a c : VRel m (.vals sz []) (.slice a 0 c)
  | vals sz l b o c (f : Nat → Value) : l.length ≤ c → 0 < sz → 0 < l.length → (∀ e, e ∈ l → e.cells.length = sz) →
      (∀ k, k < (flatC l).length → m.icell b (o + k) = some (f k)) →
      (∀ (k : Nat) (v : AV), (flatC l)[k]? = some v → VRel m v (f k)) →
      VRel m (.vals sz l) (.slice (some ⟨b, o, none⟩) l.length c)
  | nilm : VRel m .nilm (.map none)
  | map t i r : m.mloc t i = some r → VRel m (.map t i) (.map (some r))
  | imap es r ces clock : m.imm r = some (.map ces clock) → es.length = ces.size →
      (∀ (i : Nat) (e : AV × AV) (c : MapEntry), es[i]? = some e → ces[i]? = some c → VRel m e.1 c.key) →
      (∀ (i : Nat) (e : AV × AV) (c : MapEntry), es[i]? = some e → ces[i]? = some c → VRel m e.2 c.val) →
      Born ces clock → VRel m (.imap es) (.map (some r))
  | itr i r : m.iloc i = some r → VRel m (.itr i) (.pointer (some ⟨r, 0, none⟩))
  | fn f first caps (a b : Array Value) : first.length = a.size → caps.length = b.size →
      (∀ (i : Nat) (v : AV) (c : Value), first[i]? = some v → a[i]? = some c → VRel m v c) →
      (∀ (i : Nat) (v : AV) (c : Value), caps[i]? = some v → b[i]? = some c → VRel m v c) → VRel m (.fn f first caps) (.func f a b)
  | nilf : VRel m .nilf .nilFunc
  | iface t v c : VRel m v c → VRel m (.iface t v) (.iface t c)
  | nili : VRel m .nili .nilIface
  | agg cs (a : Array Value) : cs.length = a.size → (∀ (i : Nat) (v : AV) (c : Value), cs[i]? = some v → a[i]? = some c → VRel m v c) → VRel m (.agg cs) (.agg a)
  | tup cs (a : Array Value) : cs.length = a.size → (∀ (i : Nat) (v : AV) (c : Value), cs[i]? = some v → a[i]? = some c → VRel m v c) → VRel m (.tup cs) (.tuple a)

theorem VRel.mono {m m' : Emb} (h : m.le m') {v : AV} {c : Value} (r : VRel m v c) : VRel m' v c := by
  induction r with
  | any v => exact .any v
  | bool b => exact .bool b
  | int k n => exact .int k n
  | float k n => exact .float k n
  | str s => exact .str s
  | nilp => exact .nilp
  | ptr r L e => exact .ptr r L (h.loc _ _ _ e)
  | iptr e off b o f h1 h2 ih => exact .iptr e off b o f (fun j hj => h.icell (h1 j hj)) ih
  | nils a => exact .nils a
  | slc r n L c e h1 h2 h3 h4 h5 h6 => exact .slc r n L c (h.loc _ _ _ e) h1 h2 h3 h4 h5 h6
  | slc0 r L a e h1 => exact .slc0 r L a (h.loc _ _ _ e) h1
  | vals0 sz a c => exact .vals0 sz a c
  | vals sz l b o c f h1 h2 h3 h4 h5 h6 ih => exact .vals sz l b o c f h1 h2 h3 h4 (fun k hk => h.icell (h5 k hk)) ih
  | nilm => exact .nilm
  | map t i r e => exact .map t i r (h.mloc _ _ _ e)
  | imap es r ces clock e h1 h2 h3 h4 ih1 ih2 => exact .imap es r ces clock (h.imm _ _ e) h1 ih1 ih2 h4
  | itr i r e => exact .itr i r (h.iloc _ _ e)
  | fn f first caps a b h1 h2 h3 h4 ih1 ih2 => exact .fn f first caps a b h1 h2 ih1 ih2
  | nilf => exact .nilf
  | iface t v c _ ih => exact .iface t v c ih
  | nili => exact .nili
  | agg cs a h1 _ ih => exact .agg cs a h1 ih
  | tup cs a h1 _ ih => exact .tup cs a h1 ih

/-- Lists of values. -/
def VRels (m : Emb) (vs : List AV) (cs : List Value) : Prop := vs.length = cs.length ∧ ∀ (i : Nat) (v : AV) (c : Value), vs[i]? = some v → cs[i]? = some c → VRel m v c

theorem VRels.mono {m m' : Emb} (h : m.le m') {v : List AV} {c : List Value} (r : VRels m v c) : VRels m' v c := ⟨r.1, fun i a b x y => (r.2 i a b x y).mono h⟩
theorem VRels.nil {m : Emb} : VRels m [] [] := ⟨rfl, fun i _ _ h => by simp at h⟩
theorem VRels.cons {m : Emb} {v : AV} {c : Value} {vs : List AV} {cs : List Value} (h : VRel m v c) (t : VRels m vs cs) : VRels m (v :: vs) (c :: cs) :=
  ⟨by simp [t.1], fun i a b x y => by
    cases i with
    | zero => simp at x y; subst x; subst y; exact h
    | succ i => exact t.2 i a b (by simpa using x) (by simpa using y)⟩
theorem VRels.inv_nil {m : Emb} {cs : List Value} (h : VRels m [] cs) : cs = [] := by
  cases cs with | nil => rfl | cons c cs => simp [VRels] at h
theorem VRels.inv_cons {m : Emb} {v : AV} {vs : List AV} {cs : List Value} (h : VRels m (v :: vs) cs) : ∃ c cs', cs = c :: cs' ∧ VRel m v c ∧ VRels m vs cs' := by
  cases cs with
  | nil => simp [VRels] at h
  | cons c cs =>
    refine ⟨c, cs, rfl, h.2 0 _ _ (by simp) (by simp), by simpa using h.1, fun i a b x y => ?_⟩
    exact h.2 (i + 1) a b (by simpa using x) (by simpa using y)

/-- An object of the view. -/
abbrev AObj := Option (List AV)
abbrev AMap := Option (List (AV × AV))

/-- An iterator: over which map, and what it hasn't told. -/
structure AItr where
  src : Option (Nat × Nat)
  rest : List (AV × AV)
  cur : Option (AV × AV)

/-- The view's memory: by type and number. -/
structure AH where
  arr : Nat → Nat → AObj
  map : Nat → Nat → AMap
  itr : Nat → Option AItr
  next : Nat

/-- Is a block's frozen range no part of it? -/
def noFrost (fr : Nat × Nat) (n : Nat) : Prop := ∀ o, o < n → ¬ (fr.1 ≤ o ∧ o < fr.2)

structure LiveAt (m : Emb) (w : World) (t : Nat) (es : List AV) (L : Loc) : Prop where
  cells : 0 < L.num → ∃ c fr, w.heap[L.blk]? = some (.cells c t fr) ∧ c.size = L.num ∧ noFrost fr L.num ∧
    ∀ (k : Nat) (u : AV), (flatC es)[k]? = some u → ∃ v, c[L.base + k]? = some v ∧ VRel m u v
  room : L.base + es.length * L.sz ≤ L.num
  size : ∀ e : AV, e ∈ es → e.cells.length = L.sz
  flat : ∀ e u : AV, e ∈ es → u ∈ e.cells → u.noAgg = true
  pos : 0 < L.sz
  cnt : es.length = L.cnt
  free : 0 < L.num → m.imm L.blk = none

structure MapAt (m : Emb) (w : World) (es : List (AV × AV)) (r : Nat) : Prop where
  ents : ∃ ces clock, w.heap[r]? = some (.map ces clock) ∧ es.length = ces.size ∧
      (∀ (i : Nat) (e : AV × AV) (c : MapEntry), es[i]? = some e → ces[i]? = some c → VRel m e.1 c.key) ∧
      (∀ (i : Nat) (e : AV × AV) (c : MapEntry), es[i]? = some e → ces[i]? = some c → VRel m e.2 c.val) ∧ Born ces clock
  free : m.imm r = none

/-- An iterator's state: what it hasn't told is, in the map's order, the entries that it hasn't seen. -/
structure ItrAt (m : Emb) (w : World) (it : AItr) (r : Nat) : Prop where
  obj : (it.src = none ∧ it.rest = [] ∧ it.cur = none ∧ w.heap[r]? = some (.mapIter none 0 #[] 0)) ∨
    ∃ b ces clock seen, (∀ p, it.src = some p → m.mloc p.1 p.2 = some b) ∧ (it.src = none → m.imm b ≠ none) ∧ w.heap[b]? = some (.map ces clock) ∧ w.heap[r]? = some (.mapIter (some b) clock seen clock) ∧
      Born ces clock ∧ it.rest.length = (ces.filter fun e => !seen.contains e.born).size ∧
      (∀ (i : Nat) (e : AV × AV) (c : MapEntry), it.rest[i]? = some e → (ces.filter fun e => !seen.contains e.born)[i]? = some c → VRel m e.1 c.key ∧ VRel m e.2 c.val) ∧
      ∀ e : AV × AV, it.cur = some e → ∃ stamp c, seen.back? = some stamp ∧ ces.find? (fun x => x.born == stamp) = some c ∧ VRel m e.1 c.key ∧ VRel m e.2 c.val
  free : m.imm r = none

def sizeOf? (P : Program) (t : TypeId) : Option Nat := (P.info? t).map (·.size)

/-- What is known of the world of the beginning: what the library's variables hold. -/
def Pre (P : Program) (w : World) : Prop :=
  (∀ g, P.globalNamed "internal/bytealg.MaxLen" = some g → ∃ m, w.cell? ⟨g, 0, none⟩ = some (.int .i64 m)) ∧ Lib.TabIs P w "internal/strconv.uint64pow10" .u64 Lib.pow10Tab

/-- Does the view's memory stand for a world's? -/
structure HRel (P : Program) (m : Emb) (h : AH) (w : World) : Prop where
  os : w.os = m.w0.os
  tape : w.tape = m.w0.tape
  output : w.output = m.w0.output
  size : m.w0.heap.size ≤ w.heap.size
  imm : ∀ b o, m.imm b = some o → w.heap[b]? = some o
  old : ∀ b, b < m.w0.heap.size → m.imm b = m.w0.heap[b]?
  live : ∀ t i es, h.arr t i = some es → ∃ L, m.loc t i = some L ∧ LiveAt m w t es L
  maps : ∀ t i es, h.map t i = some es → ∃ r, m.mloc t i = some r ∧ MapAt m w es r
  itrs : ∀ i it, h.itr i = some it → ∃ r, m.iloc i = some r ∧ ItrAt m w it r
  apart : ∀ t i es t' i' es' L L', h.arr t i = some es → h.arr t' i' = some es' → m.loc t i = some L → m.loc t' i' = some L' → 0 < L.num → 0 < L'.num → L.blk = L'.blk → t = t' ∧ i = i'
  mapart : ∀ t i t' i' r, m.mloc t i = some r → m.mloc t' i' = some r → t = t' ∧ i = i'
  mlt : ∀ t i r, m.mloc t i = some r → r < w.heap.size
  iapart : ∀ i it i' it' r, h.itr i = some it → h.itr i' = some it' → m.iloc i = some r → m.iloc i' = some r → i = i'
  sized : ∀ t i L, m.loc t i = some L → sizeOf? P t = some L.sz ∧ L.base % L.sz = 0
  fresh : ∀ t i, h.next ≤ i → m.loc t i = none ∧ m.mloc t i = none ∧ m.iloc i = none
  pre : Pre P m.w0

end Gls
