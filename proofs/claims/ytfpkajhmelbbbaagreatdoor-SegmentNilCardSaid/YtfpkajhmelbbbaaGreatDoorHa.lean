/- Lists that a call may look at, and slices of a function's own. No condition. -/
import Derived.Test.YtfpkajhmelbbbaaGreatDoorGz
set_option linter.unusedVariables false
set_option linter.unusedSimpArgs false
namespace Gls
open Go
variable {P : Program} {n : Nat}

/-- A slice whose elements may be looked at: plain, or in memory. -/
def Lst (h : AH) (T sz : Nat) (v : AV) (l : List AV) : Prop :=
  (v = .vals sz l) ∨ (v = .nils ∧ l = []) ∨ ∃ r m es, v = .slc r m ∧ r.ty = T ∧ r.off = 0 ∧ h.arr T r.id = some es ∧ r.idx + m ≤ es.length ∧ l = (es.drop r.idx).take m

section
variable {h h' : AH} {T sz : Nat} {v : AV} {l : List AV}
theorem Lst.vals : Lst h T sz (.vals sz l) l := .inl rfl
theorem Lst.nils : Lst h T sz .nils [] := .inr (.inl ⟨rfl, rfl⟩)
theorem Lst.slc {r : Ref} {m : Nat} {es : List AV} (e1 : r.ty = T) (e2 : r.off = 0) (e3 : h.arr T r.id = some es) (e4 : r.idx + m ≤ es.length) : Lst h T sz (.slc r m) ((es.drop r.idx).take m) :=
  .inr (.inr ⟨r, m, es, rfl, e1, e2, e3, e4, rfl⟩)
/-- A whole object. -/
theorem Lst.all {id : Nat} {es : List AV} (e3 : h.arr T id = some es) : Lst h T sz (.slc ⟨T, id, 0, 0⟩ es.length) es := by
  have := Lst.slc (sz := sz) (r := ⟨T, id, 0, 0⟩) (m := es.length) rfl rfl e3 (by simp)
  simpa using this
theorem Lst.obj {id m : Nat} {es : List AV} (e3 : h.arr T id = some es) (hm : m = es.length) : Lst h T sz (.slc ⟨T, id, 0, 0⟩ m) es := by
  subst hm; exact .all e3
theorem Lst.same (L : Lst h T sz v l) (wf : h.WF) (S : Same h h') : Lst h' T sz v l := by
  rcases L with rfl | ⟨rfl, rfl⟩ | ⟨r, m, es, rfl, e1, e2, e3, e4, rfl⟩
  · exact .vals
  · exact .nils
  · have hlt : r.id < h.next := by
      refine Nat.lt_of_not_le fun hle => ?_
      rw [wf.arr T r.id hle] at e3; cases e3
    exact .slc e1 e2 (by rw [S.arr T r.id hlt]; exact e3) e4
theorem Lst.len {k : AV → Prop} (L : Lst h T sz v l) (H : k (.int .i64 l.length)) : xLenSl v k := by
  rcases L with rfl | ⟨rfl, rfl⟩ | ⟨r, m, es, rfl, e1, e2, e3, e4, rfl⟩
  · exact H
  · exact H
  · have : ((es.drop r.idx).take m).length = m := by rw [List.length_take, List.length_drop, Nat.min_eq_left (by omega)]
    rw [this] at H; exact H
/-- An element's address: what is loaded from it is the element. -/
def IsAt (h : AH) (p e : AV) : Prop := ∀ agg k, aPart agg e 0 k → aLoad agg p h k
theorem IsAt.load {p e : AV} {agg : Option Nat} {k : AV → Prop} (A : IsAt h p e) (H : xPart agg e 0 k) : xLoad agg p h k := A agg k H
theorem IsAt.iptr {e : AV} : IsAt h (.iptr e 0) e := fun agg k H => H
theorem Lst.at {kd : IntKind} {i : Int} {k : AV → Prop} {e : AV} (L : Lst h T sz v l) (hi : 0 ≤ i) (he : l[i.toNat]? = some e) (H : ∀ p, IsAt h p e → k p) : xIdxAddrS T sz v (.int kd i) k := by
  rcases L with rfl | ⟨rfl, rfl⟩ | ⟨r, m, es, rfl, e1, e2, e3, e4, rfl⟩
  · exact ⟨rfl, hi, e, he, H _ .iptr⟩
  · simp at he
  · have hlt : i.toNat < m := by
      have := (List.getElem?_eq_some_iff.1 he).1
      rw [List.length_take] at this; omega
    refine ⟨e1, ⟨hi, by omega⟩, H _ fun agg k hk => ?_⟩
    subst e1
    refine ⟨es, e3, e, ?_, ?_⟩
    · rw [List.getElem?_take, if_pos hlt, List.getElem?_drop] at he; exact he
    · show aPart agg e r.off k
      rw [e2]; exact hk
theorem Lst.elems {K : List AV → Prop} (L : Lst h T sz v l) (H : K l) : xElems T sz v h K := by
  rcases L with rfl | ⟨rfl, rfl⟩ | ⟨r, m, es, rfl, e1, e2, e3, e4, rfl⟩
  · exact ⟨rfl, H⟩
  · exact H
  · exact ⟨e1, e2, es, by rw [e1]; exact e3, e4, H⟩
theorem Lst.isSl (L : Lst h T sz v l) : Gls.isSl v = true := by
  rcases L with rfl | ⟨rfl, rfl⟩ | ⟨r, m, es, rfl, _⟩ <;> rfl

/-- A slice of the function's own: its object is newer than k, and wholly its own. -/
def Own (k : Nat) (h : AH) (T : Nat) (v : AV) (l : List AV) : Prop :=
  (v = .nils ∧ l = []) ∨ ∃ id, v = .slc ⟨T, id, 0, 0⟩ l.length ∧ k ≤ id ∧ id < h.next ∧ h.arr T id = some l
/-- The number of a slice's object. -/
def vid : AV → Option Nat
  | .slc r _ => some r.id
  | _ => none
/-- Memory as it was, but for the object of a slice. -/
structure But (v : Option Nat) (h h' : AH) : Prop where
  next : h.next ≤ h'.next
  arr : ∀ t i, i < h.next → some i ≠ v → h'.arr t i = h.arr t i
  map : ∀ t i, i < h.next → h'.map t i = h.map t i
  itr : ∀ i, i < h.next → h'.itr i = h.itr i
theorem Own.nils {k : Nat} : Own k h T .nils [] := .inl ⟨rfl, rfl⟩
theorem Own.mk {k id : Nat} {es : List AV} (h1 : k ≤ id) (h2 : id < h.next) (h3 : h.arr T id = some es) {m : Nat} (hm : m = es.length) : Own k h T (.slc ⟨T, id, 0, 0⟩ m) es := .inr ⟨id, by rw [hm], h1, h2, h3⟩
theorem Own.lst {k : Nat} (O : Own k h T v l) : Lst h T sz v l := by
  rcases O with ⟨rfl, rfl⟩ | ⟨id, rfl, _, _, e⟩
  · exact .nils
  · exact .all e
theorem Own.new {k : Nat} (O : Own k h T v l) {i : Nat} (hv : vid v = some i) : k ≤ i ∧ i < h.next := by
  rcases O with ⟨rfl, rfl⟩ | ⟨id, rfl, a, b, e⟩
  · cases hv
  · cases hv; exact ⟨a, b⟩
theorem Own.keep {k : Nat} (O : Own k h T v l) {w : Option Nat} (B : But w h h') (hw : vid v = none ∨ vid v ≠ w) : Own k h' T v l := by
  rcases O with ⟨rfl, rfl⟩ | ⟨id, rfl, a, b, e⟩
  · exact .nils
  · refine .mk a (Nat.lt_of_lt_of_le b B.next) ?_ rfl
    rw [B.arr T id b ?_]; exact e
    rcases hw with hw | hw
    · cases hw
    · exact hw
theorem Own.same {k : Nat} (O : Own k h T v l) (S : Same h h') : Own k h' T v l := by
  rcases O with ⟨rfl, rfl⟩ | ⟨id, rfl, a, b, e⟩
  · exact .nils
  · exact .mk a (Nat.lt_of_lt_of_le b S.next) (by rw [S.arr T id b]; exact e) rfl
theorem But.same {h0 : AH} {w : Option Nat} (B : But w h h') (S : Same h0 h) (hw : ∀ i, w = some i → h0.next ≤ i) : Same h0 h' :=
  ⟨Nat.le_trans S.next B.next, fun t i hi => by
    rw [B.arr t i (Nat.lt_of_lt_of_le hi S.next) fun e => by have := hw i e.symm; omega]
    exact S.arr t i hi, fun t i hi => (B.map t i (Nat.lt_of_lt_of_le hi S.next)).trans (S.map t i hi), fun i hi => (B.itr i (Nat.lt_of_lt_of_le hi S.next)).trans (S.itr i hi)⟩
theorem Same.but {w : Option Nat} (S : Same h h') : But w h h' := ⟨S.next, fun t i hi _ => S.arr t i hi, S.map, S.itr⟩
theorem But.trans {w : Option Nat} {h'' : AH} (a : But w h h') (b : But w h' h'') : But w h h'' :=
  ⟨Nat.le_trans a.next b.next, fun t i hi hn => (b.arr t i (Nat.lt_of_lt_of_le hi a.next) hn).trans (a.arr t i hi hn), fun t i hi => (b.map t i (Nat.lt_of_lt_of_le hi a.next)).trans (a.map t i hi), fun i hi => (b.itr i (Nat.lt_of_lt_of_le hi a.next)).trans (a.itr i hi)⟩

/-- An append onto a slice of the function's own. -/
theorem Own.append {k bytes : Nat} {x : AV} {xs : List AV} {K : AV → AH → Prop} (O : Own k h T v l) (hx : Lst h T sz x xs) (hsz : 0 < sz) (hxs : ∀ e ∈ xs, flat e ∧ e.cells.length = sz) (hk : k ≤ h.next) (hb : (l.length + xs.length) * bytes ≤ 2 ^ 47)
    (H : ∀ v' h', Own k h' T v' (l ++ xs) → But (vid v) h h' → (vid v' = vid v ∨ ∃ i, vid v' = some i ∧ h.next ≤ i) → K v' h') : xAppend T sz bytes v x h K := by
  rw [aAppend_eq]
  refine hx.elems (need_of ⟨hsz, hxs⟩ ?_)
  rcases O with ⟨rfl, rfl⟩ | ⟨id, rfl, a, b, e⟩
  · rw [appV_nils]
    refine need_of (by simpa using hb) (H _ _ (.mk hk (by simp) (by simp) (by simp)) ⟨by simp, fun t i hi _ => ?_, fun _ _ _ => rfl, fun _ _ => rfl⟩ (.inr ⟨h.next, rfl, Nat.le_refl _⟩))
    rw [arr_push, if_neg fun e => by omega]
  · rw [appV_slc]
    refine need_of ⟨rfl, rfl⟩ (bindO_of e (need_of (by simp) (splitP_of (fun hc => ?_) fun hc => ?_)))
    · simp at hc
    · refine need_of hb (H _ _ (.mk (by simpa using hk) (by simp) (by simp) (by simp)) ⟨by simp, fun t i hi hn => ?_, fun _ _ _ => rfl, fun _ _ => rfl⟩ (.inr ⟨h.next, rfl, Nat.le_refl _⟩))
      rw [arr_push, if_neg fun e => by simp at e; omega, arr_set, if_neg fun e => hn (by simp [vid, e.2])]
end

/-- A slice of the function's own goes on as another one; all else is as it was. -/
structure Upd (h : AH) (v : AV) (h' : AH) (v' : AV) : Prop where
  but : But (vid v) h h'
  vid : vid v' = vid v ∨ ∃ i, vid v' = some i ∧ h.next ≤ i
theorem Upd.refl {h : AH} {v : AV} : Upd h v h v := ⟨(Same.refl h).but, .inl rfl⟩
theorem Upd.same {h h' : AH} {v : AV} (S : Same h h') : Upd h v h' v := ⟨S.but, .inl rfl⟩
theorem Upd.trans {h h' h'' : AH} {v v' v'' : AV} (a : Upd h v h' v') (b : Upd h' v' h'' v'') : Upd h v h'' v'' := by
  refine ⟨⟨Nat.le_trans a.but.next b.but.next, fun t i hi hn => ?_, fun t i hi => (b.but.map t i (Nat.lt_of_lt_of_le hi a.but.next)).trans (a.but.map t i hi), fun i hi => (b.but.itr i (Nat.lt_of_lt_of_le hi a.but.next)).trans (a.but.itr i hi)⟩, ?_⟩
  · rw [b.but.arr t i (Nat.lt_of_lt_of_le hi a.but.next) fun e => ?_]
    · exact a.but.arr t i hi hn
    · rcases a.vid with h1 | ⟨j, h1, h2⟩
      · exact hn (by rw [e, h1])
      · rw [h1] at e; cases e; omega
  · rcases b.vid with h1 | ⟨j, h1, h2⟩
    · rw [h1]; exact a.vid
    · exact .inr ⟨j, h1, Nat.le_trans a.but.next h2⟩
theorem Upd.keeps {h0 h h' : AH} {v v' : AV} (a : Upd h v h' v') (S : Same h0 h) (hv : ∀ i, Gls.vid v = some i → h0.next ≤ i) : Same h0 h' := a.but.same S hv

/-- An append onto a slice of the function's own. -/
theorem Own.app {k bytes T sz : Nat} {h : AH} {v x : AV} {l xs : List AV} {K : AV → AH → Prop} (O : Own k h T v l) (hx : Lst h T sz x xs) (hsz : 0 < sz) (hxs : ∀ e ∈ xs, flat e ∧ e.cells.length = sz) (hk : k ≤ h.next) (hb : (l.length + xs.length) * bytes ≤ 2 ^ 47)
    (H : ∀ v' h', Own k h' T v' (l ++ xs) → Upd h v h' v' → K v' h') : xAppend T sz bytes v x h K :=
  O.append hx hsz hxs hk hb fun v' h' a b c => H v' h' a ⟨b, c⟩

/-- Bytes and whole numbers as lists of values. -/
def bytesV (s : List UInt8) : List AV := s.map fun b => .int .u8 b.toNat
def intsV (l : List Int) : List AV := l.map (.int .i64)
@[simp] theorem bytesV_nil : bytesV [] = [] := rfl
@[simp] theorem bytesV_cons {b : UInt8} {s : List UInt8} : bytesV (b :: s) = .int .u8 b.toNat :: bytesV s := rfl
@[simp] theorem bytesV_app {s t : List UInt8} : bytesV (s ++ t) = bytesV s ++ bytesV t := by simp [bytesV]
@[simp] theorem bytesV_len {s : List UInt8} : (bytesV s).length = s.length := by simp [bytesV]
@[simp] theorem intsV_nil : intsV [] = [] := rfl
@[simp] theorem intsV_cons {b : Int} {s : List Int} : intsV (b :: s) = .int .i64 b :: intsV s := rfl
@[simp] theorem intsV_app {s t : List Int} : intsV (s ++ t) = intsV s ++ intsV t := by simp [intsV]
@[simp] theorem intsV_len {s : List Int} : (intsV s).length = s.length := by simp [intsV]
theorem bytesOf_bytesV {s : List UInt8} : bytesOf (bytesV s) = some s := by
  induction s with
  | nil => rfl
  | cons b s ih => simp [bytesOf, ih]
theorem bytesV_fit {s : List UInt8} : ∀ e ∈ bytesV s, flat e ∧ e.cells.length = 1 := by
  intro e he
  obtain ⟨b, _, rfl⟩ := List.mem_map.1 he
  exact ⟨by simp [flat], rfl⟩
theorem intsV_fit {s : List Int} : ∀ e ∈ intsV s, flat e ∧ e.cells.length = 1 := by
  intro e he
  obtain ⟨b, _, rfl⟩ := List.mem_map.1 he
  exact ⟨by simp [flat], rfl⟩
end Gls
