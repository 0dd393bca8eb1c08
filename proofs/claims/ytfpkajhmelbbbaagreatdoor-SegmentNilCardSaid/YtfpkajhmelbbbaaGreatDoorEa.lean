/- A runner in the view: a memory that can be worked out, and what each operation does to it, as a test of what follows. No condition. -/
import Derived.Test.YtfpkajhmelbbbaaGreatDoorGz
set_option linter.unusedVariables false
set_option linter.unusedSimpArgs false
namespace Gls
open Go

/-- A tree of things by number. -/
inductive Tr (α : Type) where
  | nil
  | node (l : Tr α) (v : Option α) (r : Tr α)

namespace Tr
variable {α : Type}
def get : Tr α → Nat → Option α
  | .nil, _ => none
  | .node l v r, i => match Nat.beq i 0 with
    | true => v
    | false => match Nat.beq (i % 2) 1 with
      | true => l.get (i / 2)
      | false => r.get (i / 2 - 1)
def ch (t : Tr α) : Tr α × Option α × Tr α := match t with
  | .nil => (.nil, none, .nil)
  | .node l v r => (l, v, r)
def put : Nat → Tr α → Nat → Option α → Tr α
  | 0, t, _, _ => t
  | f + 1, t, i, v => match t.ch with
    | (l, w, r) => match Nat.beq i 0 with
      | true => .node l v r
      | false => match Nat.beq (i % 2) 1 with
        | true => .node (put f l (i / 2) v) w r
        | false => .node l w (put f r (i / 2 - 1) v)
def set (t : Tr α) (i : Nat) (v : Option α) : Tr α := put (i + 1) t i v
theorem get_ch {t l r : Tr α} {w : Option α} (h : t.ch = (l, w, r)) (j : Nat) : t.get j = if j = 0 then w else if j % 2 = 1 then l.get (j / 2) else r.get (j / 2 - 1) := by
  cases t with
  | nil => cases h; simp [get]
  | node a b c =>
    cases h
    rw [get.eq_2]
    by_cases h0 : j = 0
    · subst h0; rfl
    · have : Nat.beq j 0 = false := by cases hb : Nat.beq j 0 with | true => exact absurd (Nat.eq_of_beq_eq_true hb) h0 | false => rfl
      rw [this, if_neg h0]
      by_cases h1 : j % 2 = 1
      · rw [h1, if_pos rfl]
      · have : Nat.beq (j % 2) 1 = false := by cases hb : Nat.beq (j % 2) 1 with | true => exact absurd (Nat.eq_of_beq_eq_true hb) h1 | false => rfl
        rw [this, if_neg h1]
theorem get_node {l r : Tr α} {w : Option α} (j : Nat) : (Tr.node l w r).get j = if j = 0 then w else if j % 2 = 1 then l.get (j / 2) else r.get (j / 2 - 1) := get_ch rfl j
theorem get_put {v : Option α} : ∀ {f i : Nat} {t : Tr α}, i < f → ∀ j, (put f t i v).get j = if j = i then v else t.get j := by
  intro f
  induction f with
  | zero => intro i t hi; omega
  | succ f ih =>
    intro i t hi j
    unfold put
    rcases hc : t.ch with ⟨l, w, r⟩
    simp only
    rw [get_ch hc j]
    by_cases h0 : i = 0
    · subst h0
      show (Tr.node l v r).get j = _
      rw [get_node]
      by_cases hj : j = 0 <;> simp [hj]
    · have : Nat.beq i 0 = false := by cases hb : Nat.beq i 0 with | true => exact absurd (Nat.eq_of_beq_eq_true hb) h0 | false => rfl
      rw [this]
      by_cases h1 : i % 2 = 1
      · rw [h1]
        show (Tr.node (put f l (i / 2) v) w r).get j = _
        rw [get_node, ih (by omega)]
        by_cases hj : j = 0
        · subst hj; rw [if_pos rfl, if_neg (by omega), if_pos rfl]
        · rw [if_neg hj, if_neg hj]
          by_cases h2 : j % 2 = 1
          · rw [if_pos h2, if_pos h2]
            by_cases h3 : j = i
            · subst h3; simp
            · rw [if_neg (by omega), if_neg h3]
          · rw [if_neg h2, if_neg h2, if_neg (by omega)]
      · have : Nat.beq (i % 2) 1 = false := by cases hb : Nat.beq (i % 2) 1 with | true => exact absurd (Nat.eq_of_beq_eq_true hb) h1 | false => rfl
        rw [this]
        show (Tr.node l w (put f r (i / 2 - 1) v)).get j = _
        rw [get_node, ih (by omega)]
        by_cases hj : j = 0
        · subst hj; rw [if_pos rfl, if_neg (by omega), if_pos rfl]
        · rw [if_neg hj, if_neg hj]
          by_cases h2 : j % 2 = 1
          · rw [if_pos h2, if_pos h2, if_neg (by omega)]
          · rw [if_neg h2, if_neg h2]
            by_cases h3 : j = i
            · subst h3; simp
            · rw [if_neg (by omega), if_neg h3]
theorem get_set {t : Tr α} {i j : Nat} {v : Option α} : (t.set i v).get j = if j = i then v else t.get j := get_put (Nat.lt_succ_self i) j
end Tr

/-- An object that can be worked out. -/
inductive CO where
  | arr (t : Nat) (es : List AV)
  | map (t : Nat) (es : List (AV × AV))

structure CH where
  objs : Tr CO
  its : List (Nat × AItr)
  next : Nat

/-- What may come out: nothing is known (none), or one of these. -/
abbrev Rs (α : Type) := Option (List α)
def Good {α : Type} (G : α → Prop) (r : Rs α) : Prop := ∃ l, r = some l ∧ ∀ x, x ∈ l → G x
theorem not_good {α : Type} {G : α → Prop} {p : Prop} (h : Good G (none : Rs α)) : p := by obtain ⟨l, h, _⟩ := h; cases h
def both {α : Type} (a b : Rs α) : Rs α := match a with
  | none => none
  | some l => match b with
    | none => none
    | some r => some (l ++ r)
theorem both_good {α : Type} {G : α → Prop} {a b : Rs α} (h : Good G (both a b)) : Good G a ∧ Good G b := by
  unfold both at h
  split at h
  · exact not_good h
  · split at h
    · exact not_good h
    · obtain ⟨l, e, h⟩ := h
      cases e
      exact ⟨⟨_, rfl, fun x hx => h x (List.mem_append_left _ hx)⟩, ⟨_, rfl, fun x hx => h x (List.mem_append_right _ hx)⟩⟩

namespace CH
variable {α : Type}
def arr (h : CH) (t i : Nat) : AObj := match h.objs.get i with
  | some (.arr t' es) => if t = t' then some es else none
  | _ => none
def map (h : CH) (t i : Nat) : AMap := match h.objs.get i with
  | some (.map t' es) => if t = t' then some es else none
  | _ => none
def look (i : Nat) : List (Nat × AItr) → Option AItr
  | [] => none
  | (j, a) :: l => if i = j then some a else look i l
def abs (h : CH) : AH := { arr := h.arr, map := h.map, itr := fun i => look i h.its, next := h.next }
def setArr (h : CH) (t i : Nat) (es : List AV) : CH := { h with objs := h.objs.set i (some (.arr t es)) }
def delArr (h : CH) (i : Nat) : CH := { h with objs := h.objs.set i none }
def setMap (h : CH) (t i : Nat) (es : List (AV × AV)) : CH := { h with objs := h.objs.set i (some (.map t es)) }
def setItr (h : CH) (i : Nat) (a : AItr) : CH := { h with its := (i, a) :: h.its.filter fun p => decide (p.1 ≠ i) }
def noItr (h : CH) (t i : Nat) : Bool := h.its.all fun p => decide (p.2.src ≠ some (t, i))
/-- Numbers worked out ahead of what follows. -/
def num {β : Type} (n : Nat) (k : Nat → β) : β := match n with
  | 0 => k 0
  | m + 1 => k (m + 1)
theorem num_eq {β : Type} {n : Nat} {k : Nat → β} : num n k = k n := by cases n <;> rfl
def push (h : CH) (t : Nat) (es : List AV) (K : CH → Rs α) : Rs α := match h.objs.get h.next with
  | none => num (h.next + 1) fun n => K { objs := h.objs.set h.next (some (.arr t es)), its := h.its, next := n }
  | some _ => none
def pushMap (h : CH) (t : Nat) (es : List (AV × AV)) (K : CH → Rs α) : Rs α := match h.objs.get h.next with
  | none => num (h.next + 1) fun n => K { objs := h.objs.set h.next (some (.map t es)), its := h.its, next := n }
  | some _ => none
def pushItr (h : CH) (a : AItr) (K : CH → Rs α) : Rs α := num (h.next + 1) fun n => K { (h.setItr h.next a) with next := n }

variable {h : CH} {t i : Nat}
theorem arr_get {es : List AV} (e : h.arr t i = some es) : h.objs.get i = some (.arr t es) := by
  unfold arr at e
  split at e
  · rename_i t' es' hg
    split at e
    · rename_i ht; subst ht; cases e; exact hg
    · cases e
  · cases e
theorem map_get {es : List (AV × AV)} (e : h.map t i = some es) : h.objs.get i = some (.map t es) := by
  unfold map at e
  split at e
  · rename_i t' es' hg
    split at e
    · rename_i ht; subst ht; cases e; exact hg
    · cases e
  · cases e
theorem arr_eq (h : CH) (t i : Nat) : h.arr t i = match h.objs.get i with
  | some (.arr t' es) => if t = t' then some es else none
  | _ => none := rfl
theorem map_eq (h : CH) (t i : Nat) : h.map t i = match h.objs.get i with
  | some (.map t' es) => if t = t' then some es else none
  | _ => none := rfl

theorem abs_setArr {es es' : List AV} (e : h.arr t i = some es) : (h.setArr t i es').abs = h.abs.setArr t i (some es') := by
  have hg := arr_get e
  unfold setArr abs AH.setArr
  congr 1
  · funext t' i'
    simp only
    rw [arr_eq, Tr.get_set]
    by_cases hi : i' = i
    · subst hi
      rw [if_pos rfl]
      by_cases ht : t' = t
      · simp [ht]
      · rw [if_neg (fun e => ht e.1), arr_eq, hg]; simp [ht]
    · rw [if_neg hi, if_neg (fun e => hi e.2)]; rfl
  · funext t' i'
    show CH.map _ _ _ = CH.map h _ _; rw [map_eq, map_eq, Tr.get_set]
    by_cases hi : i' = i
    · subst hi; rw [if_pos rfl, hg]
    · rw [if_neg hi]
theorem abs_delArr {es : List AV} (e : h.arr t i = some es) : (h.delArr i).abs = h.abs.setArr t i none := by
  have hg := arr_get e
  unfold delArr abs AH.setArr
  congr 1
  · funext t' i'
    simp only
    rw [arr_eq, Tr.get_set]
    by_cases hi : i' = i
    · subst hi
      rw [if_pos rfl]
      by_cases ht : t' = t
      · simp [ht]
      · rw [if_neg (fun e => ht e.1), arr_eq, hg]; simp [ht]
    · rw [if_neg hi, if_neg (fun e => hi e.2)]; rfl
  · funext t' i'
    show CH.map _ _ _ = CH.map h _ _; rw [map_eq, map_eq, Tr.get_set]
    by_cases hi : i' = i
    · subst hi; rw [if_pos rfl, hg]
    · rw [if_neg hi]
theorem abs_setMap {es es' : List (AV × AV)} (e : h.map t i = some es) : (h.setMap t i es').abs = h.abs.setMap t i (some es') := by
  have hg := map_get e
  unfold setMap abs AH.setMap
  congr 1
  · funext t' i'
    show CH.arr _ _ _ = CH.arr h _ _; rw [arr_eq, arr_eq, Tr.get_set]
    by_cases hi : i' = i
    · subst hi; rw [if_pos rfl, hg]
    · rw [if_neg hi]
  · funext t' i'
    simp only
    rw [map_eq, Tr.get_set]
    by_cases hi : i' = i
    · subst hi
      rw [if_pos rfl]
      by_cases ht : t' = t
      · simp [ht]
      · rw [if_neg (fun e => ht e.1), map_eq, hg]; simp [ht]
    · rw [if_neg hi, if_neg (fun e => hi e.2)]; rfl
theorem look_filter {i j : Nat} {l : List (Nat × AItr)} (hij : j ≠ i) : look j (l.filter fun p => decide (p.1 ≠ i)) = look j l := by
  induction l with
  | nil => rfl
  | cons p l ih =>
    obtain ⟨k, a⟩ := p
    by_cases hk : k = i
    · subst hk; simp [List.filter, look, hij]; simpa using ih
    · simp only [List.filter, hk, ne_eq, not_false_eq_true, decide_true, look]
      rw [show look j (List.filter (fun p => decide (p.1 ≠ i)) l) = look j l from ih]
theorem abs_setItr {a : AItr} : (h.setItr i a).abs = h.abs.setItr i (some a) := by
  unfold setItr abs AH.setItr
  congr 1
  funext j
  simp only [look]
  by_cases hj : j = i
  · simp [hj]
  · rw [if_neg hj, if_neg hj, look_filter hj]
theorem look_mem {l : List (Nat × AItr)} {a : AItr} (e : look i l = some a) : (i, a) ∈ l := by
  induction l with
  | nil => cases e
  | cons p l ih =>
    obtain ⟨k, b⟩ := p
    unfold look at e
    split at e
    · rename_i hk; subst hk; cases e; exact List.mem_cons_self ..
    · exact List.mem_cons_of_mem _ (ih e)
theorem noItr_abs (e : h.noItr t i = true) : h.abs.noItr t i := fun k a ha => by
  have := List.all_eq_true.1 e _ (look_mem ha)
  simpa using this
theorem push_abs {es : List AV} {G : α → Prop} {K : CH → Rs α} (e : Good G (h.push t es K)) : ∃ h', Good G (K h') ∧ h'.abs = h.abs.push t es := by
  unfold push at e
  split at e
  · rename_i hg
    rw [num_eq] at e
    refine ⟨_, e, ?_⟩
    unfold abs AH.push AH.setArr AH.bump
    congr 1
    · funext t' i'
      simp only
      rw [arr_eq, Tr.get_set]
      by_cases hi : i' = h.next
      · subst hi
        rw [if_pos rfl]
        by_cases ht : t' = t
        · simp [ht]
        · rw [if_neg (fun e => ht e.1), arr_eq, hg]; simp [ht]
      · rw [if_neg hi, if_neg (fun e => hi e.2)]; rfl
    · funext t' i'
      show CH.map _ _ _ = CH.map h _ _; rw [map_eq, map_eq, Tr.get_set]
      by_cases hi : i' = h.next
      · subst hi; rw [if_pos rfl, hg]
      · rw [if_neg hi]
  · exact not_good e
theorem pushMap_abs {es : List (AV × AV)} {G : α → Prop} {K : CH → Rs α} (e : Good G (h.pushMap t es K)) : ∃ h', Good G (K h') ∧ h'.abs = h.abs.pushMap t es := by
  unfold pushMap at e
  split at e
  · rename_i hg
    rw [num_eq] at e
    refine ⟨_, e, ?_⟩
    unfold abs AH.pushMap AH.setMap AH.bump
    congr 1
    · funext t' i'
      show CH.arr _ _ _ = CH.arr h _ _; rw [arr_eq, arr_eq, Tr.get_set]
      by_cases hi : i' = h.next
      · subst hi; rw [if_pos rfl, hg]
      · rw [if_neg hi]
    · funext t' i'
      simp only
      rw [map_eq, Tr.get_set]
      by_cases hi : i' = h.next
      · subst hi
        rw [if_pos rfl]
        by_cases ht : t' = t
        · simp [ht]
        · rw [if_neg (fun e => ht e.1), map_eq, hg]; simp [ht]
      · rw [if_neg hi, if_neg (fun e => hi e.2)]; rfl
  · exact not_good e
theorem pushItr_abs {a : AItr} {G : α → Prop} {K : CH → Rs α} (e : Good G (h.pushItr a K)) : ∃ h', Good G (K h') ∧ h'.abs = h.abs.pushItr a := by
  unfold pushItr at e
  rw [num_eq] at e
  refine ⟨_, e, ?_⟩
  have := abs_setItr (h := h) (i := h.next) (a := a)
  unfold abs at this
  unfold AH.pushItr AH.bump abs
  injection this with h1 h2 h3 h4
  congr 1
end CH

-- tests
section
variable {α : Type}
def gd (b : Bool) (k : Rs α) : Rs α := match b with
  | true => k
  | false => none
theorem gd_iff {G : α → Prop} {b : Bool} {k : Rs α} : Good G (gd b k) ↔ b = true ∧ Good G k := by
  cases b
  · exact ⟨fun h => not_good h, fun h => by cases h.1⟩
  · exact ⟨fun h => ⟨rfl, h⟩, fun h => h.2⟩
def ob {β : Type} (o : Option β) (K : β → Rs α) : Rs α := match o with
  | some x => K x
  | none => none
theorem ob_iff {β : Type} {G : α → Prop} {o : Option β} {K : β → Rs α} : Good G (ob o K) ↔ ∃ x, o = some x ∧ Good G (K x) := by
  cases o
  · exact ⟨fun h => not_good h, fun ⟨_, h, _⟩ => by cases h⟩
  · exact ⟨fun h => ⟨_, rfl, h⟩, fun ⟨_, h, k⟩ => by cases h; exact k⟩
instance (v : AV) : Decidable (flat v) := inferInstanceAs (Decidable (∀ u ∈ v.cells, u.noAgg = true))

def int {β : Type} (n : Int) (k : Int → β) : β := match n with
  | .ofNat m => CH.num m fun m => k (.ofNat m)
  | .negSucc m => CH.num m fun m => k (.negSucc m)
theorem int_eq {β : Type} {n : Int} {k : Int → β} : int n k = k n := by cases n <;> (unfold int; simp only; rw [CH.num_eq])

/-- Wraps of what fits are left out. -/
def wrapF (k : IntKind) (n : Int) : Int := match k with
  | .i64 => if -9223372036854775808 ≤ n ∧ n ≤ 9223372036854775807 then n else IntKind.i64.wrap n
  | .u64 => if 0 ≤ n ∧ n ≤ 18446744073709551615 then n else IntKind.u64.wrap n
  | k => k.wrap n
theorem wrapF_eq (k : IntKind) (n : Int) : wrapF k n = k.wrap n := by
  cases k <;> unfold wrapF <;> first | rfl | skip
  · simp only; split
    · rename_i h; rw [w64 h.1 h.2]
    · rfl
  · simp only; split
    · rename_i h; rw [wu64 h.1 h.2]
    · rfl

def kInt (k : IntKind) (n : Int) (K : AV → Rs α) : Rs α := int (wrapF k n) fun n => K (.int k n)
theorem kInt_eq {k : IntKind} {n : Int} {K : AV → Rs α} : kInt k n K = K (.int k (k.wrap n)) := by unfold kInt; rw [int_eq, wrapF_eq]

def eBin (op : BinOp) (x y : AV) (K : AV → Rs α) : Rs α :=
  match x, y with
  | .int k a, .int k' b =>
    match op with
    | .shl => gd (decide (0 ≤ b)) (kInt k (a * ((2 ^ (min b.toNat k.bits) : Nat) : Int)) K)
    | .shr => gd (decide (0 ≤ b)) (int (a.fdiv ((2 ^ (min b.toNat k.bits) : Nat) : Int)) fun n => K (.int k n))
    | .add => gd (decide (k = k')) (kInt k (a + b) K)
    | .sub => gd (decide (k = k')) (kInt k (a - b) K)
    | .mul => gd (decide (k = k')) (kInt k (a * b) K)
    | .quo => gd (decide (k = k' ∧ b ≠ 0)) (kInt k (a.tdiv b) K)
    | .rem => gd (decide (k = k' ∧ b ≠ 0)) (int (a.tmod b) fun n => K (.int k n))
    | .and => gd (decide (k = k')) (kInt k (BitVec.ofInt k.bits a &&& BitVec.ofInt k.bits b).toNat K)
    | .or => gd (decide (k = k')) (kInt k (BitVec.ofInt k.bits a ||| BitVec.ofInt k.bits b).toNat K)
    | .xor => gd (decide (k = k')) (kInt k (BitVec.ofInt k.bits a ^^^ BitVec.ofInt k.bits b).toNat K)
    | .andNot => gd (decide (k = k')) (kInt k (BitVec.ofInt k.bits a &&& ~~~ BitVec.ofInt k.bits b).toNat K)
    | .eql => gd (decide (k = k')) (K (.bool (a == b)))
    | .neq => gd (decide (k = k')) (K (.bool (a != b)))
    | .lss => gd (decide (k = k')) (K (.bool (a < b)))
    | .leq => gd (decide (k = k')) (K (.bool (a ≤ b)))
    | .gtr => gd (decide (k = k')) (K (.bool (a > b)))
    | .geq => gd (decide (k = k')) (K (.bool (a ≥ b)))
  | .str a, .str b =>
    match op with
    | .add => gd (decide (a.length + b.length ≤ 9223372036854775807)) (K (.str (a ++ b)))
    | .eql => K (.bool (a == b))
    | .neq => K (.bool !(a == b))
    | .lss => K (.bool (Op.bytesLess a b))
    | .leq => K (.bool (Op.bytesLess a b || a == b))
    | .gtr => K (.bool !(Op.bytesLess a b || a == b))
    | .geq => K (.bool !(Op.bytesLess a b))
    | _ => none
  | _, _ => none

def eUn (op : UnOp) (x : AV) (K : AV → Rs α) : Rs α :=
  match op, x with
  | .not, .bool b => K (.bool !b)
  | .neg, .int k n => kInt k (0 - n) K
  | .xor, .int k n => kInt k (BitVec.ofInt k.bits (if k.signed then -1 else k.max) ^^^ BitVec.ofInt k.bits n).toNat K
  | _, _ => none

def ePart (agg : Option Nat) (e : AV) (off : Nat) (K : AV → Rs α) : Rs α :=
  match agg with
  | some n => gd (decide (off + n ≤ e.cells.length)) (K (.agg ((e.cells.drop off).take n)))
  | none => ob (e.cells[off]?) K
def eLoad (agg : Option Nat) (p : AV) (h : CH) (K : AV → Rs α) : Rs α :=
  match p with
  | .ptr r => ob (h.arr r.ty r.id) fun es => ob (es[r.idx]?) fun e => ePart agg e r.off K
  | .iptr e off => ePart agg e off K
  | _ => none
def eStore (sz : Nat) (p v : AV) (h : CH) (K : CH → Rs α) : Rs α :=
  match p with
  | .ptr r => ob (h.arr r.ty r.id) fun es => ob (es[r.idx]?) fun e => gd (decide (0 < sz ∧ r.off + sz ≤ e.cells.length ∧ v.cells.length = sz ∧ flat v)) (K (h.setArr r.ty r.id (es.set r.idx (putCells e r.off v))))
  | _ => none
def eBound (x : Option AV) (dflt hi : Nat) (K : Nat → Rs α) : Rs α :=
  match x with
  | none => K dflt
  | some (.int _ i) => gd (decide (0 ≤ i ∧ i ≤ hi)) (K i.toNat)
  | _ => none
def eSliceStr (x : AV) (lo hi : Option AV) (K : AV → Rs α) : Rs α :=
  match x with
  | .str s => eBound hi s.length s.length fun h => eBound lo 0 h fun l => K (.str ((s.take h).drop l))
  | _ => none
def eSliceSl (T sz : Nat) (x : AV) (lo hi : Option AV) (K : AV → Rs α) : Rs α :=
  match x with
  | .nils => eBound hi 0 0 fun h => eBound lo 0 h fun _ => K .nils
  | .vals sz' l => gd (decide (sz' = sz)) (eBound hi l.length l.length fun h => eBound lo 0 h fun a => K (.vals sz ((l.take h).drop a)))
  | .slc r n => gd (decide (r.ty = T)) (eBound hi n n fun h => eBound lo 0 h fun a => K (.slc { r with idx := r.idx + a } (h - a)))
  | _ => none
def eIdxAddrS (T sz : Nat) (x i : AV) (K : AV → Rs α) : Rs α :=
  match x, i with
  | .vals sz' l, .int _ i => gd (decide (sz' = sz ∧ 0 ≤ i)) (ob (l[i.toNat]?) fun e => K (.iptr e 0))
  | .slc r n, .int _ i => gd (decide (r.ty = T ∧ 0 ≤ i ∧ i < n)) (K (.ptr { r with idx := r.idx + i.toNat }))
  | _, _ => none
def eIdxAddrA (len sz : Nat) (x i : AV) (K : AV → Rs α) : Rs α :=
  match x, i with
  | .ptr r, .int _ i => gd (decide (0 ≤ i ∧ i < len)) (K (.ptr { r with off := r.off + i.toNat * sz }))
  | .iptr e off, .int _ i => gd (decide (0 ≤ i ∧ i < len)) (K (.iptr e (off + i.toNat * sz)))
  | _, _ => none
def eFieldAddr (o : Nat) (x : AV) (K : AV → Rs α) : Rs α :=
  match x with
  | .ptr r => K (.ptr { r with off := r.off + o })
  | .iptr e off => K (.iptr e (off + o))
  | _ => none
def eIdxStr (x i : AV) (K : AV → Rs α) : Rs α :=
  match x, i with
  | .str s, .int _ i => gd (decide (0 ≤ i)) (ob (s[i.toNat]?) fun b => CH.num b.toNat fun n => K (.int .u8 n))
  | _, _ => none
def eEnts (m : AV) (h : CH) (K : List (AV × AV) → Rs α) : Rs α :=
  match m with
  | .nilm => K []
  | .map t i => ob (h.map t i) K
  | .imap es => K es
  | _ => none
def eLookup (ck : CK) (z : AV) (ok : Bool) (m k : AV) (h : CH) (K : AV → Rs α) : Rs α :=
  eEnts m h fun es => ob (aFind ck k es) fun r => K (if ok then .tup [r.getD z, .bool r.isSome] else r.getD z)
def eMapUpdate (ck : CK) (m k v : AV) (h : CH) (K : CH → Rs α) : Rs α :=
  match m with
  | .map t i => gd (h.noItr t i) (ob (h.map t i) fun es => ob (aPut ck k v es) fun es' => K (h.setMap t i es'))
  | _ => none
def eDelete (ck : CK) (m k : AV) (h : CH) (K : CH → Rs α) : Rs α :=
  match m with
  | .nilm => K h
  | .map t i => gd (h.noItr t i) (ob (h.map t i) fun es => ob (aDrop ck k es) fun es' => K (h.setMap t i es'))
  | _ => none
def eRange (m : AV) (h : CH) (K : AV → CH → Rs α) : Rs α :=
  eEnts m h fun es => h.pushItr ⟨mapId m, es, none⟩ (K (.itr h.next))
/-- All entries of a list, each with what is left. -/
def eEach (K : List (AV × AV) → AV × AV → Rs α) : List (AV × AV) → List (AV × AV) → Rs α
  | _, [] => some []
  | pre, e :: l => both (K (pre ++ l) e) (eEach K (pre ++ [e]) l)
def eNext (it : AV) (h : CH) (K : AV → CH → Rs α) : Rs α :=
  match it with
  | .itr i => ob (CH.look i h.its) fun a => match a.rest with
    | [] => K (.tup [.bool false]) h
    | e :: l => eEach (fun rest e => K (.tup [.bool true, e.1, e.2]) (h.setItr i ⟨a.src, rest, some e⟩)) [] (e :: l)
  | _ => none
def eEntry (it : AV) (h : CH) (K : AV → Rs α) : Rs α :=
  match it with
  | .itr i => ob (CH.look i h.its) fun a => ob a.cur fun e => K (.tup [e.1, e.2])
  | _ => none
def eExtract (x : AV) (i : Nat) (K : AV → Rs α) : Rs α :=
  match x with
  | .tup vs => ob (vs[i]?) K
  | _ => none
def eElems (T sz : Nat) (x : AV) (h : CH) (K : List AV → Rs α) : Rs α :=
  match x with
  | .nils => K []
  | .vals sz' l => gd (decide (sz' = sz)) (K l)
  | .slc r n => gd (decide (r.ty = T ∧ r.off = 0)) (ob (h.arr r.ty r.id) fun es => gd (decide (r.idx + n ≤ es.length)) (K ((es.drop r.idx).take n)))
  | .str s => gd (decide (sz = 1)) (K (s.map fun b => .int .u8 b.toNat))
  | _ => none
def eLenSl (x : AV) (K : AV → Rs α) : Rs α :=
  match x with
  | .nils => K (.int .i64 0)
  | .vals _ l => CH.num l.length fun n => K (.int .i64 n)
  | .slc _ n => K (.int .i64 n)
  | _ => none
def eAppend (T sz bytes : Nat) (s x : AV) (h : CH) (K : AV → CH → Rs α) : Rs α :=
  eElems T sz x h fun xs => gd (decide (0 < sz ∧ ∀ e ∈ xs, flat e ∧ e.cells.length = sz)) <|
    match s with
    | .nils => gd (decide (xs.length * bytes ≤ 2 ^ 47)) (h.push T xs (K (.slc ⟨T, h.next, 0, 0⟩ xs.length)))
    | .slc r n => gd (decide (r.ty = T ∧ r.off = 0)) (ob (h.arr r.ty r.id) fun es => gd (decide (r.idx + n ≤ es.length)) <|
        if r.idx + n + xs.length ≤ es.length ∧ r.idx + n < es.length then K (.slc r (n + xs.length)) (h.setArr r.ty r.id (setRange es (r.idx + n) xs))
        else gd (decide ((n + xs.length) * bytes ≤ 2 ^ 47)) (CH.num (n + xs.length) fun n' => (h.delArr r.id).push T ((es.drop r.idx).take n ++ xs) (K (.slc ⟨T, h.next, 0, 0⟩ n'))))
    | _ => none
def eCopy (T sz : Nat) (d s : AV) (h : CH) (K : AV → CH → Rs α) : Rs α :=
  eElems T sz s h fun xs => gd (decide (∀ e ∈ xs, flat e ∧ e.cells.length = sz)) <|
    match d with
    | .nils => K (.int .i64 0) h
    | .slc r n => gd (decide (r.ty = T ∧ r.off = 0)) (ob (h.arr r.ty r.id) fun es => gd (decide (r.idx + n ≤ es.length)) (K (.int .i64 ((min xs.length n : Nat) : Int)) (h.setArr r.ty r.id (setRange es r.idx (xs.take n)))))
    | _ => none
def eMakeSlice (T sz bytes : Nat) (z len cap : AV) (h : CH) (K : AV → CH → Rs α) : Rs α :=
  match len, cap with
  | .int _ l, .int _ c => gd (decide ((0 < sz ∧ z.cells.length = sz ∧ flat z) ∧ (0 ≤ l ∧ l ≤ c ∧ c ≤ 9223372036854775807 ∧ bytes * c ≤ 2 ^ 48)))
      (h.push T (List.replicate c.toNat z) (K (.slc ⟨T, h.next, 0, 0⟩ l.toNat)))
  | _, _ => none

section
variable (ρ : Opd → AV) (h : CH) (K : AV → CH → Rs α)
/-- What an operation does, as a test of what follows. -/
def eA : AOp → Rs α
  | .mov x => K (ρ x) h
  | .pick c a b => match ρ c with | .bool t => K (if t then ρ a else ρ b) h | _ => none
  | .alloc T sz z => gd (decide (0 < sz ∧ z.cells.length = sz ∧ flat z)) (h.push T [z] (K (.ptr ⟨T, h.next, 0, 0⟩)))
  | .box T sz x => gd (decide (0 < sz ∧ (ρ x).cells.length = sz ∧ flat (ρ x))) (h.push T [ρ x] (K (.ptr ⟨T, h.next, 0, 0⟩)))
  | .build z ps => gd (ps.all fun q => (ρ q.2.2).known) (ob (fillA z (ps.map fun (o, s, x) => (o, s, ρ x))) fun cs => K (.agg cs) h)
  | .mkSlice T sz len z ps => gd (decide (0 < sz ∧ z.length = len * sz) && ps.all fun q => (ρ q.2.2).known) (ob (fillA z (ps.map fun (o, s, x) => (o, s, ρ x))) fun cs => gd (cs.all AV.noAgg)
      (h.push T (chunks sz len cs) (K (.slc ⟨T, h.next, 0, 0⟩ len))))
  | .load agg a => eLoad agg (ρ a) h fun v => K v h
  | .store sz a x => eStore sz (ρ a) (ρ x) h fun h' => K .any h'
  | .nilchk x => match ρ x with | .ptr r => K (.ptr r) h | .iptr e o => K (.iptr e o) h | _ => none
  | .bin op x y => eBin op (ρ x) (ρ y) fun v => K v h
  | .eq neg k x y => ob (aEq k (ρ x) (ρ y)) fun b => K (.bool (if neg then !b else b)) h
  | .un op x => eUn op (ρ x) fun v => K v h
  | .convInt k x => match ρ x with | .int _ n => kInt k n fun v => K v h | _ => none
  | .s2b T x => match ρ x with | .str s => h.push T (s.map fun b => .int .u8 b.toNat) (K (.slc ⟨T, h.next, 0, 0⟩ s.length)) | _ => none
  | .b2s T x => gd (isSl (ρ x)) (eElems T 1 (ρ x) h fun xs => ob (bytesOf xs) fun s => K (.str s) h)
  | .same x => match ρ x with | .str s => K (.str s) h | _ => none
  | .mkIface T x => K (.iface T (ρ x)) h
  | .mkFunc f a b => K (.fn f (a.map ρ) (b.map ρ)) h
  | .mkMap T => h.pushMap T [] (K (.map T h.next))
  | .makeSlice T sz bytes z l c => eMakeSlice T sz bytes z (ρ l) (ρ c) h K
  | .sliceStr x lo hi => eSliceStr (ρ x) (lo.map ρ) (hi.map ρ) fun v => K v h
  | .sliceSl T sz x lo hi => eSliceSl T sz (ρ x) (lo.map ρ) (hi.map ρ) fun v => K v h
  | .fieldAddr o x => eFieldAddr o (ρ x) fun v => K v h
  | .field o agg x => match ρ x with | .agg cs => ePart agg (.agg cs) o fun v => K v h | _ => none
  | .idxAddrS T sz x i => eIdxAddrS T sz (ρ x) (ρ i) fun v => K v h
  | .idxAddrA len sz x i => eIdxAddrA len sz (ρ x) (ρ i) fun v => K v h
  | .idxStr x i => eIdxStr (ρ x) (ρ i) fun v => K v h
  | .idxArr len sz agg x i => match ρ x, ρ i with | .agg cs, .int _ i => gd (decide (0 ≤ i ∧ i < len)) (ePart agg (.agg cs) (i.toNat * sz) fun v => K v h) | _, _ => none
  | .lookup ck z ok m k => eLookup ck z ok (ρ m) (ρ k) h fun v => K v h
  | .mapUpdate ck m k x => eMapUpdate ck (ρ m) (ρ k) (ρ x) h fun h' => K .any h'
  | .range m => eRange (ρ m) h K
  | .next it => eNext (ρ it) h K
  | .entry it => eEntry (ρ it) h fun v => K v h
  | .extract x i => eExtract (ρ x) i fun v => K v h
  | .lenStr x => match ρ x with | .str s => CH.num s.length fun n => K (.int .i64 n) h | _ => none
  | .lenSl x => eLenSl (ρ x) fun v => K v h
  | .lenMap x => eEnts (ρ x) h fun es => K (.int .i64 es.length) h
  | .lenArr n => K (.int .i64 n) h
  | .append T sz bytes s x => eAppend T sz bytes (ρ s) (ρ x) h K
  | .copy T sz d s => eCopy T sz (ρ d) (ρ s) h K
  | .delete ck m k => eDelete ck (ρ m) (ρ k) h fun h' => K .any h'
  | .minmax mx l => match l.map ρ with | x :: r => ob (aMMs mx x r) fun v => K v h | [] => none
end
end
end Gls
