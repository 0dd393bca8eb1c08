/- The operations that leave memory alone: what the view says of their answer holds of the model's. No condition. -/
import Derived.Test.YtfpkajhmelbbbaaGreatDoorGj
set_option linter.unusedVariables false
set_option linter.unusedSimpArgs false
namespace Gls
open Go
variable {P : Program} {m : Emb} {h : AH} {w : World}

/-- A key's equality, as the model's look-up asks it. -/
theorem sameNow_of {d : TypeDesc} {ck : CK} (hd : ckOf d = some ck) {x y : AV} {cx cy : Value} (hx : VRel m x cx) (hy : VRel m y cy) {b : Bool} (he : eqCell ck x y = some b) :
    Instr.sameNow d cx cy = some b := by
  unfold ckOf at hd
  split at hd
  · cases hd
    rcases eqCell_inv he with ⟨_, j, a, c, rfl, rfl, rfl⟩ | ⟨hk, _⟩ | ⟨hk, _⟩
    · obtain rfl := hx.int_inv
      obtain rfl := hy.int_inv
      simp [Instr.sameNow]
    · cases hk
    · cases hk
  · cases hd
    rcases eqCell_inv he with ⟨hk, _⟩ | ⟨_, a, c, rfl, rfl, rfl⟩ | ⟨hk, _⟩
    · cases hk
    · obtain rfl := hx.str_inv
      obtain rfl := hy.str_inv
      simp [Instr.sameNow, mk_beq]
    · cases hk
  · cases hd

theorem ckOf_plain {d : TypeDesc} {ck : CK} (hd : ckOf d = some ck) : (∃ k, d = .int k) ∨ d = .string := by
  unfold ckOf at hd
  split at hd
  · exact .inl ⟨_, rfl⟩
  · exact .inr rfl
  · cases hd

/-- Entries stand for entries. -/
def EntsRel (m : Emb) (es : List (AV × AV)) (ces : List MapEntry) : Prop :=
  es.length = ces.length ∧ (∀ (i : Nat) (e : AV × AV) (c : MapEntry), es[i]? = some e → ces[i]? = some c → VRel m e.1 c.key ∧ VRel m e.2 c.val)

theorem EntsRel.inv_cons {e : AV × AV} {es : List (AV × AV)} {ces : List MapEntry} (h : EntsRel m (e :: es) ces) : ∃ c cs, ces = c :: cs ∧ VRel m e.1 c.key ∧ VRel m e.2 c.val ∧ EntsRel m es cs := by
  cases ces with
  | nil => simp [EntsRel] at h
  | cons c cs =>
    obtain ⟨h1, h2⟩ := h.2 0 e c rfl rfl
    exact ⟨c, cs, rfl, h1, h2, by simpa using h.1, fun i a b x y => h.2 (i + 1) a b (by simpa using x) (by simpa using y)⟩

theorem findNow_of {d : TypeDesc} {ck : CK} (hd : ckOf d = some ck) {x : AV} {cx : Value} (hx : VRel m x cx) :
    ∀ {es : List (AV × AV)} {ces : List MapEntry} (i : Nat) {r : Option AV}, EntsRel m es ces → aFind ck x es = some r →
      (r = none ∧ Instr.findNow d cx ces i = some none) ∨
      ∃ v j c, r = some v ∧ Instr.findNow d cx ces i = some (some (i + j, c.val)) ∧ ces[j]? = some c ∧ VRel m v c.val := by
  intro es
  induction es with
  | nil =>
    intro ces i r hr ha
    have : ces = [] := by cases ces with | nil => rfl | cons a b => simp [EntsRel] at hr
    subst this
    simp [aFind] at ha; subst ha
    exact .inl ⟨rfl, rfl⟩
  | cons e es ih =>
    intro ces i r hr ha
    obtain ⟨c, cs, rfl, h1, h2, h3⟩ := hr.inv_cons
    unfold aFind at ha
    split at ha
    · rename_i he
      cases ha
      have := sameNow_of hd hx h1 he
      exact .inr ⟨_, 0, c, rfl, by simp [Instr.findNow, this], rfl, h2⟩
    · rename_i he
      have := sameNow_of hd hx h1 he
      rcases ih (i + 1) h3 ha with ⟨g1, g2⟩ | ⟨v, j, c', g1, g2, g3, g4⟩
      · exact .inl ⟨g1, by simp [Instr.findNow, this, g2]⟩
      · exact .inr ⟨v, j + 1, c', g1, by simp [Instr.findNow, this, g2]; omega, by simpa using g3, g4⟩
    · cases ha

theorem checkKey_of {d : TypeDesc} {ck : CK} {t : Nat} (ht : P.underlying t = some d) (hd : ckOf d = some ck) (b : Bool) (n : Nat) (v : Value) : (Instr.checkKey b (n + 1) t v).run P w = .ok () w := by
  rcases ckOf_plain hd with ⟨k, rfl⟩ | rfl <;> simp [Instr.checkKey, run_underlying ht]

/-- The entries that a map reads as: where they lie. -/
theorem ents_at (H : HRel P m h w) {mp : AV} {c : Value} {es : List (AV × AV)} (hm : VRel m mp c) (he : aEnts mp h (· = es)) :
    (c = .map none ∧ es = []) ∨ ∃ r ces clock, c = .map (some r) ∧ w.heap[r]? = some (.map ces clock) ∧ EntsRel m es ces.toList ∧ Born ces clock := by
  unfold aEnts at he
  split at he
  · exact .inl ⟨hm.nilm_inv, he.symm⟩
  · obtain ⟨es', h1, rfl⟩ := he
    obtain ⟨r, rfl, h2⟩ := hm.map_inv
    obtain ⟨r', h3, h4⟩ := H.maps _ _ _ h1
    rw [h2] at h3; cases h3
    obtain ⟨ces, clock, g1, g2, g3, g4, g5⟩ := h4.ents
    exact .inr ⟨r, ces, clock, rfl, g1, ⟨by simpa using g2, fun i a b x y => ⟨g3 i a b x (by simpa using y), g4 i a b x (by simpa using y)⟩⟩, g5⟩
  · subst he
    obtain ⟨r, ces, clock, rfl, g1, g2, g3, g4, g5⟩ := hm.imap_inv
    exact .inr ⟨r, ces, clock, rfl, H.imm _ _ g1, ⟨by simpa using g2, fun i a b x y => ⟨g3 i a b x (by simpa using y), g4 i a b x (by simpa using y)⟩⟩, g5⟩
  · exact he.elim

theorem run_getObj {r : Nat} {o : Obj} (hb : w.heap[r]? = some o) (ho : ∀ c t f, o ≠ .cells c t f) : (getObj r).run P w = .ok o w := by
  cases o <;> first | (exact absurd rfl (ho _ _ _)) | simp [getObj, Sem.run, hb]

theorem aLookup_sound (H : HRel P m h w) {ck : CK} {z : Value} {ok : Bool} {mp k v : AV} {c ckv : Value} {t kt e : Nat} {d : TypeDesc} (ht : P.underlying t = some (.map kt e)) (hkt : P.underlying kt = some d) (hd : ckOf d = some ck)
    (hz : zeroOf P e = some z) (hm : VRel m mp c) (hk : VRel m k ckv) (hl : aLookup ck (absC z) ok mp k h (· = v)) :
    ∃ r, (Instr.lookup t c ckv ok).run P w = .ok r w ∧ VRel m v r := by
  unfold aLookup at hl
  obtain ⟨es, ⟨r, ha, hv⟩, he⟩ := aEnts_det hl
  have fin : ∀ (u : AV) (cu : Value) (b : Bool), VRel m u cu → VRel m (if ok then .tup [u, .bool b] else u) (if ok then .tuple #[cu, .bool b] else cu) := by
    intro u cu b hu
    cases ok
    · exact hu
    · exact VRel.tup_of (VRels.cons hu (VRels.cons (.bool b) VRels.nil))
  rcases ents_at H hm he with ⟨rfl, rfl⟩ | ⟨rr, ces, clock, rfl, hb, hr, _⟩
  · simp [aFind] at ha; subst ha
    refine ⟨_, ?_, hv ▸ fin _ z false (absC_rel m z)⟩
    simp [Instr.lookup, run_underlying ht, checkKey_of hkt hd, Instr.findKey, run_underlying hkt, Instr.findNow, run_zeroValue hz]
  · have hg := run_getObj (P := P) hb (by intro a b c; simp)
    rcases findNow_of hd hk 0 hr ha with ⟨rfl, g⟩ | ⟨u, j, c', rfl, g, _, g4⟩
    · refine ⟨_, ?_, hv ▸ fin _ z false (absC_rel m z)⟩
      simp [Instr.lookup, run_underlying ht, hg, checkKey_of hkt hd, Instr.findKey, run_underlying hkt, g, run_zeroValue hz]
    · refine ⟨_, ?_, hv ▸ fin _ _ true g4⟩
      simp [Instr.lookup, run_underlying ht, hg, checkKey_of hkt hd, Instr.findKey, run_underlying hkt, g]

theorem aEntry_sound (H : HRel P m h w) {it v : AV} {c : Value} (hi : VRel m it c) (he : aEntry it h (· = v)) : ∃ r, (Instr.entry c).run P w = .ok r w ∧ VRel m v r := by
  unfold aEntry at he
  split at he
  · obtain ⟨a, h1, e, h2, rfl⟩ := he
    obtain ⟨r, rfl, h3⟩ := hi.itr_inv
    obtain ⟨r', h4, h5⟩ := H.itrs _ _ h1
    rw [h3] at h4; cases h4
    rcases h5.obj with ⟨_, _, g, _⟩ | ⟨b, ces, clock, seen, _, _, g1, g2, _, _, _, g3⟩
    · rw [h2] at g; cases g
    · obtain ⟨s, ce, p1, p2, p3, p4⟩ := g3 e h2
      refine ⟨.tuple #[ce.key, ce.val], ?_, VRel.tup_of (VRels.cons p3 (VRels.cons p4 VRels.nil))⟩
      simp [Instr.entry, run_getObj (P := P) g2 (by intro a b c; simp), p1, run_getObj (P := P) g1 (by intro a b c; simp), p2]
  · exact he.elim

theorem aExtract_sound {x v : AV} {c : Value} {i : Nat} (hx : VRel m x c) (he : aExtract x i (· = v)) : ∃ r, (Instr.extract c i).run P w = .ok r w ∧ VRel m v r := by
  unfold aExtract at he
  split at he
  · obtain ⟨u, h1, rfl⟩ := he
    obtain ⟨a, rfl, hr⟩ := hx.tup_inv
    obtain ⟨r, g1, g2⟩ := hr.get h1
    exact ⟨r, by simp at g1; simp [Instr.extract, g1], g2⟩
  · exact he.elim

theorem aMMs_sound {mx : Bool} : ∀ {l : List AV} {x v : AV} {cx : Value} {cl : List Value}, VRel m x cx → VRels m l cl → aMMs mx x l = some v →
    ∃ r, (cl.foldlM (if mx then Builtin.max2 else Builtin.min2) cx).run P w = .ok r w ∧ VRel m v r := by
  intro l
  induction l with
  | nil => intro x v cx cl hx hl h; obtain rfl := hl.inv_nil; simp [aMMs] at h; subst h; exact ⟨cx, rfl, hx⟩
  | cons y l ih =>
    intro x v cx cl hx hl h
    obtain ⟨c, cs, rfl, h1, h2⟩ := hl.inv_cons
    unfold aMMs at h
    cases hm : aMM mx x y with
    | none => rw [hm] at h; cases h
    | some z =>
      rw [hm] at h
      unfold aMM at hm
      split at hm
      · rename_i k a k' b
        split at hm
        · rename_i hk; subst hk
          cases hm
          obtain rfl := hx.int_inv
          obtain rfl := h1.int_inv
          obtain ⟨r, g1, g2⟩ := ih (.int _ _) h2 h
          refine ⟨r, ?_, g2⟩
          cases mx <;> simp [List.foldlM_cons, Builtin.max2, Builtin.min2] <;> simpa using g1
        · cases hm
      · cases hm

theorem take_set_succ {α : Type} (l : List α) (p : Nat) (v : α) (h : p < l.length) : (l.set p v).take (p + 1) = l.take p ++ [v] := by
  apply List.ext_getElem?
  intro i
  have hlen : (l.take p).length = p := by simp; omega
  rcases Nat.lt_trichotomy i p with h1 | h1 | h1
  · rw [List.getElem?_take, if_pos (by omega), List.getElem?_set_ne (by omega), List.getElem?_append_left (by omega), List.getElem?_take, if_pos h1]
  · subst h1
    rw [List.getElem?_take, if_pos (by omega), List.getElem?_append_right (by omega), hlen]
    simp [h]
  · rw [List.getElem?_take, if_neg (by omega), List.getElem?_eq_none (by simp; omega)]
theorem drop_set_lt {α : Type} (l : List α) (p q : Nat) (v : α) (h : p < q) : (l.set p v).drop q = l.drop q := by
  apply List.ext_getElem?
  intro i
  rw [List.getElem?_drop, List.getElem?_drop, List.getElem?_set_ne (by omega)]

/-- Cells with a value laid over. -/
theorem lay_over (cs : Array Value) (off : Nat) : ∀ (vs : List Value) (j : Nat) (acc : Array Value), off + j + vs.length ≤ acc.size →
    ((vs.zipIdx j).foldl (fun cs (c, j) => cs.setIfInBounds (off + j) c) acc).toList = acc.toList.take (off + j) ++ vs ++ acc.toList.drop (off + j + vs.length)
  | [], j, acc, h => by simp
  | v :: vs, j, acc, h => by
    simp only [List.zipIdx_cons, List.foldl_cons]
    simp at h
    rw [lay_over cs off vs (j + 1) (acc.setIfInBounds (off + j) v) (by simp; omega)]
    simp only [Array.toList_setIfInBounds]
    rw [show off + (j + 1) = off + j + 1 by omega, take_set_succ _ _ _ (by simp; omega), drop_set_lt _ _ _ _ (by omega)]
    simp only [List.length_cons, List.append_assoc, List.singleton_append, List.cons_append, List.nil_append]
    rw [show off + j + 1 + vs.length = off + j + (vs.length + 1) by omega]

theorem VRels.append {a b : List AV} {c d : List Value} (h : VRels m a c) (k : VRels m b d) : VRels m (a ++ b) (c ++ d) := by
  induction a generalizing c with
  | nil => obtain rfl := h.inv_nil; exact k
  | cons x a ih => obtain ⟨y, c, rfl, h1, h2⟩ := h.inv_cons; exact VRels.cons h1 (ih h2)
theorem VRels.take {a : List AV} {c : List Value} (h : VRels m a c) (n : Nat) : VRels m (a.take n) (c.take n) :=
  ⟨by simp [h.1], fun i v c e e' => by
    rw [List.getElem?_take] at e e'
    split at e
    · rename_i hlt; rw [if_pos hlt] at e'; exact h.2 i v c e e'
    · cases e⟩
theorem VRels.drop {a : List AV} {c : List Value} (h : VRels m a c) (n : Nat) : VRels m (a.drop n) (c.drop n) :=
  ⟨by simp [h.1], fun i v c e e' => by rw [List.getElem?_drop] at e e'; exact h.2 _ v c e e'⟩

theorem VRel.cells_rel {v : AV} {c : Value} (h : VRel m v c) (ha : v = .any → ∀ cs, c ≠ .agg cs) : VRels m v.cells c.cells.toList := by
  cases h with
  | agg cs a h1 h2 => exact ⟨by simp [AV.cells, Value.cells, h1], fun i v c e e' => h2 i v c e (by simpa [Value.cells] using e')⟩
  | any =>
    have : c.cells = #[c] := by cases c <;> first | rfl | exact absurd rfl (ha rfl _)
    rw [this]; exact VRels.cons (.any c) VRels.nil
  | _ => exact VRels.cons (by constructor <;> assumption) VRels.nil

theorem fill_sound {place : Nat → Option (Nat × Nat)} {σ : Opd → AV} {ρ : Operand → Value} (hρ : ∀ x, VRel m (σ (cOpd x)) (ρ x)) :
    ∀ {ps : List (Nat × Operand)} {qs : List (Nat × Nat × Opd)} {cells r : List AV} {cs : Array Value}, cParts P place ps = some qs → VRels m cells cs.toList →
      (∀ q ∈ qs, σ q.2.2 ≠ .any) →
      fillA cells (qs.map fun (o, s, x) => (o, s, σ x)) = some r → ∃ cr, Instr.fill place cs (ps.map fun (i, x) => (i, ρ x)) = some cr ∧ VRels m r cr.toList := by
  intro ps
  induction ps with
  | nil =>
    intro qs cells r cs hq hc _ hf
    simp [cParts] at hq; subst hq
    simp [fillA] at hf; subst hf
    exact ⟨cs, rfl, hc⟩
  | cons p ps ih =>
    intro qs cells r cs hq hc hany hf
    obtain ⟨i, x⟩ := p
    simp only [cParts, List.mapM_cons] at hq
    cases hp : place i with
    | none => simp [hp] at hq
    | some os =>
      obtain ⟨o, s⟩ := os
      simp only [hp, Option.map_some, Option.bind_eq_bind, Option.bind_some] at hq
      cases hq' : cParts P place ps with
      | none => unfold cParts at hq'; simp [hq'] at hq
      | some qs' =>
        have hq'' := hq'
        unfold cParts at hq''
        simp [hq''] at hq
        subst hq
        simp only [List.map_cons, fillA] at hf
        split at hf
        · rename_i hcond
          obtain ⟨hc1, hc2⟩ := hcond
          have hv := hρ x
          have hcr := hv.cells_rel (fun e => absurd e (hany (o, s, cOpd x) (by simp)))
          have hsz : (ρ x).cells.size = s := by have := hcr.1; simp at this; omega
          have hlen : cells.length = cs.size := by have := hc.1; simpa using this
          have hl := lay_over cs o (ρ x).cells.toList 0 cs (by simp; omega)
          simp only [Nat.add_zero, Array.length_toList, hsz] at hl
          have hrel : VRels m (cells.take o ++ (σ (cOpd x)).cells ++ cells.drop (o + s)) (cs.toList.take o ++ (ρ x).cells.toList ++ cs.toList.drop (o + s)) :=
            ((hc.take o).append hcr).append (hc.drop _)
          rw [← hl] at hrel
          obtain ⟨cr, g1, g2⟩ := ih hq' hrel (fun q hq => hany q (by simp [hq])) hf
          refine ⟨cr, ?_, g2⟩
          simp only [List.map_cons, Instr.fill, hp]
          rw [if_neg (by simp [hsz]; omega)]
          rw [← Array.foldl_toList, Array.toList_zipIdx]
          exact g1
        · cases hf

end Gls
