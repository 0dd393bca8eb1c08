/- The operations that leave memory alone: what the view says of their answer holds of the model's. No condition. -/
import Derived.Test.YtfpkajhmelbbbaaGreatDoorGe
import Derived.Laws.Strings
import Derived.Laws.BytesString
set_option linter.unusedVariables false
set_option linter.unusedSimpArgs false
namespace Gls
open Go

theorem flatC_nil : flatC [] = [] := rfl
theorem flatC_cons (e : AV) (l : List AV) : flatC (e :: l) = e.cells ++ flatC l := rfl
theorem flatC_append (a b : List AV) : flatC (a ++ b) = flatC a ++ flatC b := by simp [flatC]
theorem flatC_length {sz : Nat} {l : List AV} (h : ∀ e ∈ l, e.cells.length = sz) : (flatC l).length = l.length * sz := by
  induction l with
  | nil => simp [flatC]
  | cons e l ih => rw [flatC_cons, List.length_append, h e (by simp), ih (fun x hx => h x (by simp [hx])), List.length_cons, Nat.succ_mul, Nat.add_comm]
theorem flatC_get {sz : Nat} {l : List AV} (h : ∀ e ∈ l, e.cells.length = sz) {i j : Nat} {e : AV} (hi : l[i]? = some e) (hj : j < sz) : (flatC l)[i * sz + j]? = e.cells[j]? := by
  induction l generalizing i with
  | nil => simp at hi
  | cons x l ih =>
    have hx := h x (by simp)
    cases i with
    | zero =>
      simp at hi; subst hi
      rw [flatC_cons, Nat.zero_mul, Nat.zero_add, List.getElem?_append_left (by omega)]
    | succ i =>
      rw [flatC_cons, List.getElem?_append_right (by rw [hx, Nat.succ_mul]; omega), hx, show (i + 1) * sz + j - sz = i * sz + j by rw [Nat.succ_mul]; omega]
      exact ih (fun y hy => h y (by simp [hy])) (by simpa using hi)

/-- At a place of memory the cells of a value. -/
def CellsAt (m : Emb) (w : World) (cs : List AV) (b o : Nat) : Prop := ∀ j u, cs[j]? = some u → ∃ v, w.cell? ⟨b, o + j, none⟩ = some v ∧ VRel m u v

variable {P : Program} {m : Emb} {h : AH} {w : World}

theorem cell_of_block {b o t : Nat} {c : Array Value} {fr : Nat × Nat} (hb : w.heap[b]? = some (.cells c t fr)) : w.cell? ⟨b, o, none⟩ = c[o]? := by simp [World.cell?, hb]

theorem HRel.icell (H : HRel P m h w) {b o : Nat} {v : Value} (e : m.icell b o = some v) : w.cell? ⟨b, o, none⟩ = some v := by
  unfold Emb.icell at e
  split at e
  · rename_i c t f hb; rw [cell_of_block (H.imm b _ hb)]; exact e
  · cases e

theorem addr_add (b o n : Nat) : (⟨b, o, none⟩ : Addr).add n = ⟨b, o + n, none⟩ := by
  unfold Addr.add; split
  · rename_i h; subst h; rfl
  · rfl

theorem LiveAt.num_pos {t : Nat} {es : List AV} {L : Loc} (h : LiveAt m w t es L) (hne : 0 < es.length) : 0 < L.num := by
  have := h.room; have := Nat.mul_pos hne h.pos; omega

theorem LiveAt.at {t : Nat} {es : List AV} {L : Loc} (h : LiveAt m w t es L) {i : Nat} {e : AV} (hi : es[i]? = some e) : CellsAt m w e.cells L.blk (L.base + i * L.sz) := by
  intro j u hj
  have hlt : i < es.length := (List.getElem?_eq_some_iff.1 hi).1
  have hjl : j < e.cells.length := (List.getElem?_eq_some_iff.1 hj).1
  have hsz := h.size e (List.mem_of_getElem? hi)
  obtain ⟨c, fr, h1, h2, h3, h4⟩ := h.cells (h.num_pos (by omega))
  obtain ⟨v, a, b⟩ := h4 (i * L.sz + j) u (by rw [flatC_get h.size hi (by omega)]; exact hj)
  exact ⟨v, by rw [cell_of_block h1, Nat.add_assoc]; exact a, b⟩

theorem CellsAt.drop {cs : List AV} {b o : Nat} (h : CellsAt m w cs b o) (k : Nat) : CellsAt m w (cs.drop k) b (o + k) := fun j u hj => by
  obtain ⟨v, a, c⟩ := h (k + j) u (by simpa [List.getElem?_drop] using hj)
  exact ⟨v, by rw [Nat.add_assoc]; exact a, c⟩
theorem CellsAt.take {cs : List AV} {b o : Nat} (h : CellsAt m w cs b o) (k : Nat) : CellsAt m w (cs.take k) b o := fun j u hj => by
  rw [List.getElem?_take] at hj
  split at hj
  · exact h j u hj
  · cases hj

/-- The values of cells. -/
theorem CellsAt.values {cs : List AV} {b o : Nat} (h : CellsAt m w cs b o) : ∃ vs : List Value, vs.length = cs.length ∧ VRels m cs vs ∧ ∀ j v, vs[j]? = some v → w.cell? ((⟨b, o, none⟩ : Addr).add j) = some v := by
  induction cs generalizing o with
  | nil => exact ⟨[], rfl, VRels.nil, fun j v e => by simp at e⟩
  | cons x cs ih =>
    obtain ⟨v, a, c⟩ := h 0 x rfl
    obtain ⟨vs, h1, h2, h3⟩ := ih (o := o + 1) (h.drop 1)
    refine ⟨v :: vs, by simp [h1], VRels.cons c h2, fun j u e => ?_⟩
    cases j with
    | zero => simp at e; subst e; rw [addr_add]; exact a
    | succ j => rw [addr_add, show o + (j + 1) = o + 1 + j by omega]; have := h3 j u (by simpa using e); rwa [addr_add] at this

theorem VRel.agg_of {cs : List AV} {vs : List Value} (h : VRels m cs vs) : VRel m (.agg cs) (.agg vs.toArray) :=
  .agg _ _ (by simp [h.1]) fun i v c a b => h.2 i v c a (by simpa using b)
theorem VRel.tup_of {cs : List AV} {vs : List Value} (h : VRels m cs vs) : VRel m (.tup cs) (.tuple vs.toArray) :=
  .tup _ _ (by simp [h.1]) fun i v c a b => h.2 i v c a (by simpa using b)

theorem load_cells {cs : List AV} {b o : Nat} (h : CellsAt m w cs b o) : ∃ vs : List Value, (loadCells ⟨b, o, none⟩ cs.length).run P w = .ok vs.toArray w ∧ vs.length = cs.length ∧ VRels m cs vs := by
  obtain ⟨vs, h1, h2, h3⟩ := h.values
  exact ⟨vs, by rw [← h1]; exact run_loadCells_list w _ vs h3, h1, h2⟩

theorem run_typeInfo {t : TypeId} {i : TypeInfo} (h : P.info? t = some i) : (typeInfo t).run P w = .ok i w := by simp [typeInfo, h]
theorem run_sizeOf {t s : Nat} (h : sizeOf? P t = some s) : (Go.sizeOf t).run P w = .ok s w := by
  unfold sizeOf? at h
  cases hi : P.info? t with
  | none => simp [hi] at h
  | some i => simp [hi] at h; subst h; simp [Go.sizeOf, run_typeInfo hi]
theorem run_zeroValue {t : Nat} {z : Value} (h : zeroOf P t = some z) : (zeroValue t).run P w = .ok z w := by
  unfold zeroOf at h
  cases hi : P.info? t with
  | none => simp [hi] at h
  | some i => simp [hi] at h; simp [zeroValue, run_typeInfo hi, h]
theorem run_isAgg {t : Nat} {a : Option Nat} (h : aggOf P t = some a) : (isAgg t).run P w = .ok a.isSome w := by
  unfold aggOf at h
  cases hu : P.underlying t with
  | none => simp [hu] at h
  | some d =>
    rw [hu] at h
    cases d <;> (cases hi : P.info? t <;> simp [hi] at h <;> subst h <;> simp [isAgg, run_underlying hu])
theorem run_sizeOf_agg {t n : Nat} (h : aggOf P t = some (some n)) : (Go.sizeOf t).run P w = .ok n w := by
  refine run_sizeOf ?_
  unfold aggOf at h
  cases hu : P.underlying t with
  | none => simp [hu] at h
  | some d =>
    rw [hu] at h
    cases d <;> (cases hi : P.info? t <;> simp [hi] at h <;> simp [sizeOf?, hi, h])

theorem load_sound {e v : AV} {agg : Option Nat} {t b o off : Nat} (hc : CellsAt m w e.cells b o) (hp : aPart agg e off (· = v)) (ha : aggOf P t = some agg) :
    ∃ c, (loadVar t ⟨b, o + off, none⟩).run P w = .ok c w ∧ VRel m v c := by
  unfold aPart at hp
  cases agg with
  | some n =>
    obtain ⟨hle, hv⟩ := hp
    obtain ⟨vs, h1, h2, h3⟩ := load_cells (P := P) ((hc.drop off).take n)
    have hn : ((e.cells.drop off).take n).length = n := by simp; omega
    rw [hn] at h1
    refine ⟨.agg vs.toArray, ?_, by rw [← hv]; exact .agg_of h3⟩
    simp [loadVar, run_isAgg ha, run_sizeOf_agg ha, h1]
  | none =>
    obtain ⟨u, h1, h2⟩ := hp
    obtain ⟨c, h3, h4⟩ := hc off u h1
    exact ⟨c, by simp [loadVar, run_isAgg ha, h3], h2 ▸ h4⟩

/-- The place that a pointer tells, and what is there. -/
theorem ptr_cells (H : HRel P m h w) {r : Ref} {es : List AV} {e : AV} {c : Value} (hv : VRel m (.ptr r) c) (ha : h.arr r.ty r.id = some es) (he : es[r.idx]? = some e) :
    ∃ L, m.loc r.ty r.id = some L ∧ c = .pointer (some ⟨L.blk, L.base + r.idx * L.sz + r.off, none⟩) ∧ LiveAt m w r.ty es L ∧ CellsAt m w e.cells L.blk (L.base + r.idx * L.sz) := by
  cases hv with
  | ptr _ L hl =>
    obtain ⟨L', h1, h2⟩ := H.live _ _ _ ha
    rw [hl] at h1; cases h1
    exact ⟨L, hl, rfl, h2, h2.at he⟩

theorem iptr_cells (H : HRel P m h w) {e : AV} {off : Nat} {c : Value} (hv : VRel m (.iptr e off) c) :
    ∃ b o, c = .pointer (some ⟨b, o + off, none⟩) ∧ CellsAt m w e.cells b o := by
  cases hv with
  | iptr _ _ b o f h1 h2 =>
    exact ⟨b, o, rfl, fun j u hj => ⟨f j, H.icell (h1 j (List.getElem?_eq_some_iff.1 hj).1), h2 j u hj⟩⟩

theorem aLoad_sound (H : HRel P m h w) {p v : AV} {c : Value} {agg : Option Nat} {t : Nat} (hv : VRel m p c) (hl : aLoad agg p h (· = v)) (ha : aggOf P t = some agg) :
    ∃ x, (Instr.loadAt t c).run P w = .ok x w ∧ VRel m v x := by
  unfold aLoad at hl
  split at hl
  · rename_i r
    obtain ⟨es, h1, e, h2, h3⟩ := hl
    obtain ⟨L, _, rfl, _, hc⟩ := ptr_cells H hv h1 h2
    obtain ⟨x, h4, h5⟩ := load_sound hc h3 ha
    exact ⟨x, by simp [Instr.loadAt, Instr.sureAddr, h4], h5⟩
  · obtain ⟨b, o, rfl, hc⟩ := iptr_cells H hv
    obtain ⟨x, h4, h5⟩ := load_sound hc hl ha
    exact ⟨x, by simp [Instr.loadAt, Instr.sureAddr, h4], h5⟩
  · exact hl.elim

/-- The elements that a source tells, where they lie. -/
theorem elems_at (H : HRel P m h w) {x : AV} {c : Value} {T sz : Nat} {xs : List AV} (hz : sizeOf? P T = some sz) (hv : VRel m x c) (hx : aElems T sz x h (· = xs)) :
    (∃ s : List UInt8, c = .string ⟨s.toArray⟩ ∧ sz = 1 ∧ xs = s.map fun b => .int .u8 b.toNat) ∨
    ∃ a cap, c = .slice a xs.length cap ∧ xs.length ≤ cap ∧ (0 < xs.length → (∀ e ∈ xs, e.cells.length = sz) ∧ ∃ b o, a = some ⟨b, o, none⟩ ∧ CellsAt m w (flatC xs) b o) := by
  unfold aElems at hx
  split at hx
  · subst hx
    cases hv with | nils a => exact .inr ⟨_, _, rfl, Nat.le_refl _, fun h => by simp at h⟩
  · obtain ⟨rfl, rfl⟩ := hx
    cases hv with
    | vals0 sz a c => exact .inr ⟨_, _, rfl, by simp, fun h => by simp at h⟩
    | vals _ _ b o cap f h1 h2 h3 h4 h5 h6 =>
      exact .inr ⟨_, _, rfl, h1, fun _ => ⟨h4, b, o, rfl, fun j u hj => ⟨f j, H.icell (h5 j (List.getElem?_eq_some_iff.1 hj).1), h6 j u hj⟩⟩⟩
  · rename_i r n
    obtain ⟨hT, _, es, h1, h2, h3⟩ := hx
    have hlen : xs.length = n := by rw [← h3]; simp; omega
    cases hv with
    | slc0 r L a hl hcnt => exact .inr ⟨a, 0, by rw [hlen], by omega, fun h => by omega⟩
    | slc r n L cap hl k1 k2 k3 k4 k5 k6 =>
      refine .inr ⟨_, cap, by rw [hlen], by omega, fun hpos => ?_⟩
      obtain ⟨L', g1, g2⟩ := H.live _ _ _ h1
      rw [hl] at g1; cases g1
      have hsz : ∀ e ∈ xs, e.cells.length = L.sz := fun e he => g2.size e (by rw [← h3] at he; exact List.mem_of_mem_drop (List.mem_of_mem_take he))
      have heq : L.sz = sz := by have := (H.sized _ _ _ hl).1; rw [hT, hz] at this; exact (Option.some.inj this).symm
      refine ⟨fun e he => heq ▸ hsz e he, L.blk, L.base + r.idx * L.sz + r.off, rfl, ?_⟩
      intro j u hj
      obtain ⟨c, fr, p1, p2, p3, p4⟩ := g2.cells (g2.num_pos (by omega))
      have hfl : (flatC es)[r.idx * L.sz + j]? = some u := by
        have e1 : es = es.take r.idx ++ (xs ++ (es.drop r.idx).drop n) := by rw [← h3, List.take_append_drop, List.take_append_drop]
        have e2 : (flatC (es.take r.idx)).length = r.idx * L.sz := by
          rw [flatC_length (fun e he => g2.size e (List.mem_of_mem_take he)), List.length_take, Nat.min_eq_left (by omega)]
        rw [e1, flatC_append, List.getElem?_append_right (by omega), e2, Nat.add_sub_cancel_left, flatC_append, List.getElem?_append_left (List.getElem?_eq_some_iff.1 hj).1]
        exact hj
      obtain ⟨v, q1, q2⟩ := p4 _ u hfl
      exact ⟨v, by rw [cell_of_block p1, k3, Nat.add_zero, Nat.add_assoc]; exact q1, q2⟩
  · obtain ⟨rfl, rfl⟩ := hx
    cases hv; exact .inl ⟨_, rfl, rfl, rfl⟩
  · exact hx.elim

end Gls
