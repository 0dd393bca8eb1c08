/- New objects, and changes in live ones: what the view says holds of the model's memory. No condition. -/
import Derived.Test.YtfpkajhmelbbbaaGreatDoorGl
set_option linter.unusedVariables false
set_option linter.unusedSimpArgs false
namespace Gls
open Go
variable {P : Program} {m : Emb} {h : AH} {w : World}

/-- A world with a block set, and so many draws. -/
def putBlk (w : World) (b : Nat) (o : Obj) : World := { w with heap := w.heap.setIfInBounds b o }

/-- The cells of a row with some set. -/
def putAt (c : Array Value) (o : Nat) : List Value → Array Value
  | [] => c
  | v :: vs => putAt (c.setIfInBounds o v) (o + 1) vs

theorem putAt_size (c : Array Value) (o : Nat) (vs : List Value) : (putAt c o vs).size = c.size := by
  induction vs generalizing c o with
  | nil => rfl
  | cons v vs ih => rw [putAt, ih]; simp

theorem putAt_get (c : Array Value) (o : Nat) (vs : List Value) (h : o + vs.length ≤ c.size) (k : Nat) :
    (putAt c o vs)[k]? = if o ≤ k ∧ k < o + vs.length then vs[k - o]? else c[k]? := by
  induction vs generalizing c o with
  | nil => simp [putAt]; omega
  | cons v vs ih =>
    simp at h
    rw [putAt, ih _ _ (by simp; omega)]
    by_cases h1 : o + 1 ≤ k ∧ k < o + 1 + vs.length
    · rw [if_pos h1, if_pos (by simp; omega), show k - o = (k - (o + 1)) + 1 by omega]; simp
    · by_cases h2 : k = o
      · subst h2; rw [if_neg (by omega), if_pos (by simp)]; simp [show k < c.size by omega]
      · rw [if_neg h1, if_neg (by simp; omega), Array.getElem?_setIfInBounds_ne (by omega)]

theorem setCell_eq {b o t : Nat} {c : Array Value} {fr : Nat × Nat} (hb : w.heap[b]? = some (.cells c t fr)) (v : Value) :
    w.setCell ⟨b, o, none⟩ v = putBlk w b (.cells (c.setIfInBounds o v) t fr) := by
  have hlt := (Array.getElem?_eq_some_iff.1 hb).1
  have hv := (Array.getElem?_eq_some_iff.1 hb).2
  unfold World.setCell putBlk
  congr 1
  apply Array.ext_getElem?
  intro i
  by_cases hi : b = i
  · subst hi
    rw [Array.getElem?_modify]
    simp [hb, hlt, hv]
  · rw [Array.getElem?_setIfInBounds_ne hi, Array.getElem?_modify, if_neg (by simpa using hi)]

theorem putBlk_self {b : Nat} {o : Obj} (hb : w.heap[b]? = some o) : putBlk w b o = w := by
  have hlt := (Array.getElem?_eq_some_iff.1 hb).1
  have hv := (Array.getElem?_eq_some_iff.1 hb).2
  unfold putBlk
  have : w.heap.setIfInBounds b o = w.heap := by
    apply Array.ext
    · simp
    · intro i h1 h2
      rw [Array.getElem_setIfInBounds]
      split
      · rename_i e; subst e; exact hv.symm
      · rfl
  rw [this]

theorem putBlk_get {b : Nat} {o : Obj} (hb : b < w.heap.size) : (putBlk w b o).heap[b]? = some o := by simp [putBlk, hb]
theorem putBlk_ne {b b' : Nat} {o : Obj} (h : b' ≠ b) : (putBlk w b o).heap[b']? = w.heap[b']? := by simp [putBlk, Array.getElem?_setIfInBounds_ne (Ne.symm h)]
theorem putBlk_put {b : Nat} {o o' : Obj} : putBlk (putBlk w b o) b o' = putBlk w b o' := by simp [putBlk]
theorem putBlk_size {b : Nat} {o : Obj} : (putBlk w b o).heap.size = w.heap.size := by simp [putBlk]

theorem run_store_cell {b o t : Nat} {c : Array Value} {fr : Nat × Nat} (hb : w.heap[b]? = some (.cells c t fr)) (hf : noFrost fr c.size) (ho : o < c.size) {v : Value} (hv : v.oneCell' = true) :
    (store ⟨b, o, none⟩ v).run P w = .ok () (putBlk w b (.cells (c.setIfInBounds o v) t fr)) := by
  have h1 : w.cell? ⟨b, o, none⟩ = some c[o] := by rw [cell_of_block hb]; simp [ho]
  have h2 : w.frozen? ⟨b, o, none⟩ = false := by
    have := hf o ho
    simp only [World.frozen?, hb, Bool.and_eq_false_iff, decide_eq_false_iff_not]
    by_cases h : fr.1 ≤ o
    · exact .inr (fun h' => this ⟨h, h'⟩)
    · exact .inl h
  rw [run_store P w _ v _ hv, h1]
  simp [h2, setCell_eq hb]

theorem run_storeCells {b t : Nat} {fr : Nat × Nat} : ∀ {vs : List Value} {c : Array Value} {w : World} {o i : Nat}, w.heap[b]? = some (.cells c t fr) → noFrost fr c.size → o + i + vs.length ≤ c.size → (∀ v ∈ vs, v.oneCell' = true) →
    (storeCells ⟨b, o, none⟩ vs i).run P w = .ok () (putBlk w b (.cells (putAt c (o + i) vs) t fr)) := by
  intro vs
  induction vs with
  | nil => intro c w o i hb hf h hv; simp [storeCells, putAt, putBlk_self hb]
  | cons v vs ih =>
    intro c w o i hb hf h hv
    simp at h
    simp only [storeCells, Sem.run_bind, addr_add]
    rw [run_store_cell hb hf (by omega) (hv v (by simp))]
    simp only [Result.andThen_ok]
    have hlt := (Array.getElem?_eq_some_iff.1 hb).1
    rw [ih (c := c.setIfInBounds (o + i) v) (putBlk_get hlt) (by simpa using hf) (by simp; omega) (fun x hx => hv x (by simp [hx]))]
    rw [putBlk_put, putAt, show o + (i + 1) = o + i + 1 by omega]

theorem oneCell_of {u : AV} {v : Value} (h : VRel m u v) (hu : u.noAgg = true) : v.oneCell' = true := by
  cases h <;> first | rfl | simp [AV.noAgg] at hu

theorem setRange_get (l : List AV) (i : Nat) (xs : List AV) (h : i + xs.length ≤ l.length) (k : Nat) :
    (setRange l i xs)[k]? = if i ≤ k ∧ k < i + xs.length then xs[k - i]? else l[k]? := by
  unfold setRange
  have hlen : (l.take i).length = i := by simp; omega
  by_cases h1 : k < i
  · rw [if_neg (by omega), List.append_assoc, List.getElem?_append_left (by omega), List.getElem?_take, if_pos h1]
  · rw [List.append_assoc, List.getElem?_append_right (by omega), hlen]
    by_cases h2 : k < i + xs.length
    · rw [if_pos (by omega), List.getElem?_append_left (by omega)]
    · rw [if_neg (by omega), List.getElem?_append_right (by omega), List.getElem?_drop]
      congr 1; omega
theorem setRange_length (l : List AV) (i : Nat) (xs : List AV) (h : i + xs.length ≤ l.length) : (setRange l i xs).length = l.length := by
  unfold setRange; simp; omega

theorem flatC_setRange {sz : Nat} {l xs : List AV} (h : ∀ e ∈ l, e.cells.length = sz) (hx : ∀ e ∈ xs, e.cells.length = sz) {i : Nat} (hi : i + xs.length ≤ l.length) :
    flatC (setRange l i xs) = setRange (flatC l) (i * sz) (flatC xs) := by
  unfold setRange
  rw [flatC_append, flatC_append, flatC_take h i (by omega), flatC_drop h _ hi, flatC_length hx, Nat.add_mul]

theorem set_eq_setRange (l : List AV) (i : Nat) (e : AV) (h : i < l.length) : l.set i e = setRange l i [e] := by
  apply List.ext_getElem?
  intro k
  rw [setRange_get l i [e] (by simp; omega)]
  by_cases hk : i = k
  · subst hk; rw [if_pos (by simp)]; simp [h]
  · rw [List.getElem?_set_ne hk, if_neg (by simp; omega)]

theorem setRange_mem {l xs : List AV} {i : Nat} {e : AV} (h : e ∈ setRange l i xs) : e ∈ l ∨ e ∈ xs := by
  unfold setRange at h
  rcases List.mem_append.1 h with h | h
  · rcases List.mem_append.1 h with h | h
    · exact .inl (List.mem_of_mem_take h)
    · exact .inr h
  · exact .inl (List.mem_of_mem_drop h)

theorem setRange_setRange (l : List AV) (i j : Nat) (a xs : List AV) (ha : i + a.length ≤ l.length) (hj : j + xs.length ≤ a.length) (hl : ∀ k, k < a.length → l[i + k]? = a[k]?) :
    setRange l i (setRange a j xs) = setRange l (i + j) xs := by
  apply List.ext_getElem?
  intro k
  have e := setRange_length a j xs hj
  rw [setRange_get l i _ (by omega), setRange_get l (i + j) xs (by omega), e]
  by_cases h1 : i ≤ k ∧ k < i + a.length
  · rw [if_pos h1, setRange_get a j xs hj]
    by_cases h2 : i + j ≤ k ∧ k < i + j + xs.length
    · rw [if_pos h2, if_pos (by omega)]; congr 1; omega
    · rw [if_neg h2, if_neg (by omega)]
      have := hl (k - i) (by omega)
      rw [show i + (k - i) = k by omega] at this
      exact this.symm
  · rw [if_neg h1, if_neg (by omega)]

/-- Cells of live memory that are set. -/
theorem LiveAt.poke {t : Nat} {es : List AV} {L : Loc} (ha : LiveAt m w t es L) {es' : List AV} {p : Nat} {us : List AV} {vs : List Value} (hr : VRels m us vs)
    (hlen : es'.length = es.length) (hsz : ∀ e : AV, e ∈ es' → e.cells.length = L.sz) (hfl : ∀ e u : AV, e ∈ es' → u ∈ e.cells → u.noAgg = true) (he : flatC es' = setRange (flatC es) p us) (hp : p + us.length ≤ (flatC es).length) (hflat : ∀ u ∈ us, u.noAgg = true)
    (h0 : 0 < us.length) : ∃ c fr, w.heap[L.blk]? = some (.cells c t fr) ∧ (storeCells ⟨L.blk, L.base + p, none⟩ vs).run P w = .ok () (putBlk w L.blk (.cells (putAt c (L.base + p) vs) t fr)) ∧
      LiveAt m (putBlk w L.blk (.cells (putAt c (L.base + p) vs) t fr)) t es' L := by
  have hfl0 := flatC_length ha.size
  have hroom := ha.room
  have hn : 0 < L.num := by omega
  obtain ⟨c, fr, h1, h2, h3, h4⟩ := ha.cells hn
  have hlv := hr.1
  refine ⟨c, fr, h1, ?_, ?_⟩
  · have := run_storeCells (P := P) (vs := vs) (o := L.base + p) (i := 0) h1 (by rw [h2]; exact h3) (by omega) (fun v hv => by
      obtain ⟨i, hi, rfl⟩ := List.getElem_of_mem hv
      have e1 : us[i]? = some (us[i]'(by omega)) := by simp
      exact oneCell_of (hr.2 i _ _ e1 (by simp [hi])) (hflat _ (List.getElem_mem _)))
    simpa using this
  · refine ⟨fun _ => ⟨putAt c (L.base + p) vs, fr, putBlk_get (Array.getElem?_eq_some_iff.1 h1).1, by rw [putAt_size, h2], h3, ?_⟩, by rw [hlen]; exact hroom, hsz, hfl, ha.pos, by rw [hlen]; exact ha.cnt, ha.free⟩
    intro k u hk
    rw [he, setRange_get _ _ _ hp] at hk
    rw [putAt_get _ _ _ (by omega)]
    split at hk
    · rename_i hc
      rw [if_pos (by omega), show L.base + k - (L.base + p) = k - p by omega]
      exact hr.get hk
    · rename_i hc
      rw [if_neg (by omega)]
      exact h4 k u hk

/-- A live object's block is nobody else's. -/
theorem LiveAt.nobody (H : HRel P m h w) {t i : Nat} {es : List AV} {L : Loc} (he : h.arr t i = some es) (hl : m.loc t i = some L) (ha : LiveAt m w t es L) (hn : 0 < L.num) : Nobody m (h.setArr t i none) L.blk := by
  obtain ⟨c, fr, h1, _⟩ := ha.cells hn
  refine ⟨fun t' i' es' L' e g p hb => ?_, fun t' i' es' r e g hb => ?_, fun i' it r e g hb => ?_, fun i' it e p hs hm => ?_, ha.free hn⟩
  · simp only [AH.setArr] at e
    split at e
    · cases e
    · rename_i hne
      exact hne (H.apart t' i' es' t i es L' L e he g hl p hn hb)
  · obtain ⟨r', g1, g2⟩ := H.maps t' i' es' e
    rw [g] at g1; cases g1
    obtain ⟨ces, clock, g3, _⟩ := g2.ents
    rw [hb, h1] at g3; cases g3
  · obtain ⟨r', g1, g2⟩ := H.itrs i' it e
    rw [g] at g1; cases g1
    rcases g2.obj with ⟨_, _, _, g3⟩ | ⟨_, _, _, _, _, _, _, g3, _⟩ <;> (rw [hb, h1] at g3; cases g3)
  · obtain ⟨r', g1, g2⟩ := H.itrs i' it e
    rcases g2.obj with ⟨g3, _⟩ | ⟨b, _, _, _, g3, _, g4, _⟩
    · rw [g3] at hs; cases hs
    · have := g3 p hs
      rw [hm] at this; cases this
      rw [h1] at g4; cases g4

/-- An object whose cells are set. -/
theorem HRel.pokeArr (H : HRel P m h w) {t i : Nat} {es : List AV} {L : Loc} (he : h.arr t i = some es) (hl : m.loc t i = some L) (ha : LiveAt m w t es L) (hn : 0 < L.num) {o : Obj} {es' : List AV}
    (ha' : LiveAt m (putBlk w L.blk o) t es' L) : HRel P m (h.setArr t i (some es')) (putBlk w L.blk o) := by
  have H1 := H.dropArr t i
  have H2 : HRel P m (h.setArr t i none) (putBlk w L.blk o) := H1.poke (ha.nobody H he hl hn) rfl rfl rfl putBlk_size fun b hb => putBlk_ne hb
  have := H2.putArr hl ha' fun _ t' i' es'' L' e g p hb => by
    simp only [AH.setArr] at e
    split at e
    · cases e
    · exact H.apart t' i' es'' t i es L' L e he g hl p hn hb
  have e : (h.setArr t i none).setArr t i (some es') = h.setArr t i (some es') := by
    unfold AH.setArr; simp only [AH.mk.injEq, and_true]
    funext t' i'; split <;> rfl
  rwa [e] at this

/-- A new row of cells. -/
theorem HRel.newRow (H : HRel P m h w) {T sz : Nat} (hz : sizeOf? P T = some sz) (hpos : 0 < sz) {es : List AV} {cs : Array Value} {fr : Nat × Nat} (hf : noFrost fr cs.size)
    (hsz : ∀ e : AV, e ∈ es → e.cells.length = sz) (hfl : ∀ e u : AV, e ∈ es → u ∈ e.cells → u.noAgg = true) (hroom : es.length * sz ≤ cs.size)
    (hc : ∀ (k : Nat) (u : AV), (flatC es)[k]? = some u → ∃ v, cs[k]? = some v ∧ VRel m u v) (n : Nat) :
    let L : Loc := ⟨w.heap.size, 0, sz, cs.size, es.length⟩
    let w' : World := { w with heap := w.heap.push (.cells cs T fr), drawn := n }
    m.le (m.give T h.next L) ∧ HRel P (m.give T h.next L) (h.push T es) w' ∧ (m.give T h.next L).loc T h.next = some L := by
  intro L w'
  have H1 : HRel P m h w' := H.grow rfl rfl rfl (by simp [w']) fun b hb => by simp [w', Array.getElem?_push, Nat.ne_of_lt hb]
  have ha : LiveAt m w' T es L := ⟨fun _ => ⟨cs, fr, by simp [w', L], rfl, hf, fun k u hk => by simpa [L] using hc k u hk⟩, by simpa [L] using hroom, hsz, hfl, hpos, rfl, fun _ => by
    cases hi : m.imm w.heap.size with
    | none => rfl
    | some o => exact absurd (H.imm_lt hi) (Nat.lt_irrefl _)⟩
  obtain ⟨h1, h2⟩ := H1.newArr ha ⟨hz, by simp [L]⟩ fun _ t' i' es' L' e g p hb => by
    obtain ⟨L'', g1, g2⟩ := H.live t' i' es' e
    rw [g] at g1; cases g1
    obtain ⟨c, f, g3, _⟩ := g2.cells p
    rw [hb] at g3
    exact absurd (Array.getElem?_eq_some_iff.1 g3).1 (Nat.lt_irrefl _)
  exact ⟨h1, h2, by simp [Emb.give]⟩

end Gls
