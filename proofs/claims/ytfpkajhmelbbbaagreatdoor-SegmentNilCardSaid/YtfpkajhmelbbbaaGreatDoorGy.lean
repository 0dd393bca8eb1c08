/- Objects that don't change any more are read off as plain values, and forgotten. No condition. -/
import Derived.Test.YtfpkajhmelbbbaaGreatDoorGx
set_option linter.unusedVariables false
set_option linter.unusedSimpArgs false
namespace Gls
open Go

/-- How a value of live memory reads, if memory doesn't change any more. -/
inductive Reads (h : AH) (F : Nat → Bool) : AV → AV → Prop
  | refl v : Reads h F v v
  | nils sz : Reads h F .nils (.vals sz [])
  | ptr r es e e' : F r.id = true → h.arr r.ty r.id = some es → es[r.idx]? = some e → e.cells.length = e'.cells.length →
      (∀ (j : Nat) (u u' : AV), e.cells[j]? = some u → e'.cells[j]? = some u' → Reads h F u u') → Reads h F (.ptr r) (.iptr e' r.off)
  | slc0 r sz : Reads h F (.slc r 0) (.vals sz [])
  | slc r n es sz l : F r.id = true → h.arr r.ty r.id = some es → r.idx + n ≤ es.length → 0 < n → l.length = n → (∀ e, e ∈ l → e.cells.length = sz) → (∀ e, e ∈ es → e.cells.length = sz) →
      (∀ (j : Nat) (u u' : AV), (flatC ((es.drop r.idx).take n))[j]? = some u → (flatC l)[j]? = some u' → Reads h F u u') → Reads h F (.slc r n) (.vals sz l)
  | map t i es es' : F i = true → h.map t i = some es → es.length = es'.length →
      (∀ (j : Nat) (e e' : AV × AV), es[j]? = some e → es'[j]? = some e' → Reads h F e.1 e'.1) →
      (∀ (j : Nat) (e e' : AV × AV), es[j]? = some e → es'[j]? = some e' → Reads h F e.2 e'.2) → Reads h F (.map t i) (.imap es')
  | agg cs cs' : cs.length = cs'.length → (∀ (j : Nat) (u u' : AV), cs[j]? = some u → cs'[j]? = some u' → Reads h F u u') → Reads h F (.agg cs) (.agg cs')
  | tup cs cs' : cs.length = cs'.length → (∀ (j : Nat) (u u' : AV), cs[j]? = some u → cs'[j]? = some u' → Reads h F u u') → Reads h F (.tup cs) (.tup cs')
  | iface t v v' : Reads h F v v' → Reads h F (.iface t v) (.iface t v')
  | drop v : Reads h F v .any

/-- Memory without some of its objects. -/
def AH.less (h : AH) (F : Nat → Bool) : AH := { h with arr := fun t i => if F i then none else h.arr t i, map := fun t i => if F i then none else h.map t i, itr := fun i => if F i then none else h.itr i }

open Classical in
/-- The blocks of the objects that are forgotten never change any more. -/
noncomputable def Emb.freeze (m : Emb) (h : AH) (w : World) (F : Nat → Bool) : Emb :=
  { m with imm := fun b => if (∃ t i es L, F i = true ∧ h.arr t i = some es ∧ m.loc t i = some L ∧ 0 < L.num ∧ L.blk = b) ∨ (∃ t i es, F i = true ∧ h.map t i = some es ∧ m.mloc t i = some b) then w.heap[b]? else m.imm b }

variable {P : Program} {m : Emb} {h : AH} {w : World} {F : Nat → Bool}

theorem freeze_old (H : HRel P m h w) {b : Nat} (hb : m.imm b ≠ none) : (m.freeze h w F).imm b = m.imm b := by
  unfold Emb.freeze
  simp only
  rw [if_neg]
  rintro (⟨t, i, es, L, _, h1, h2, h3, rfl⟩ | ⟨t, i, es, _, h1, h2⟩)
  · obtain ⟨L', h4, h5⟩ := H.live _ _ _ h1
    rw [h2] at h4; cases h4
    exact hb (h5.free h3)
  · obtain ⟨r, h4, h5⟩ := H.maps _ _ _ h1
    rw [h2] at h4; cases h4
    exact hb h5.free

theorem freeze_le (H : HRel P m h w) : m.le (m.freeze h w F) :=
  ⟨fun _ _ _ e => e, fun _ _ _ e => e, fun _ _ e => e, fun b o e => by rw [freeze_old H (by rw [e]; simp)]; exact e, rfl⟩

theorem freeze_arr {t i : Nat} {es : List AV} {L : Loc} (hF : F i = true) (h1 : h.arr t i = some es) (h2 : m.loc t i = some L) (h3 : 0 < L.num) : (m.freeze h w F).imm L.blk = w.heap[L.blk]? :=
  if_pos (.inl ⟨t, i, es, L, hF, h1, h2, h3, rfl⟩)
theorem freeze_map {t i b : Nat} {es : List (AV × AV)} (hF : F i = true) (h1 : h.map t i = some es) (h2 : m.mloc t i = some b) : (m.freeze h w F).imm b = w.heap[b]? :=
  if_pos (.inr ⟨t, i, es, hF, h1, h2⟩)

theorem freeze_hrel (H : HRel P m h w) : HRel P (m.freeze h w F) (h.less F) w := by
  have hle := freeze_le (F := F) H
  have none_of : ∀ b, m.imm b = none → ¬ ((∃ t i es L, F i = true ∧ h.arr t i = some es ∧ m.loc t i = some L ∧ 0 < L.num ∧ L.blk = b) ∨ (∃ t i es, F i = true ∧ h.map t i = some es ∧ m.mloc t i = some b)) → (m.freeze h w F).imm b = none := fun b h1 h2 => by
    unfold Emb.freeze; simp only; rw [if_neg h2]; exact h1
  have larr : ∀ {t i es}, (h.less F).arr t i = some es → F i = false ∧ h.arr t i = some es := fun {t i es} e => by
    simp only [AH.less] at e
    split at e
    · cases e
    · rename_i hf; exact ⟨by simpa using hf, e⟩
  have lmap : ∀ {t i es}, (h.less F).map t i = some es → F i = false ∧ h.map t i = some es := fun {t i es} e => by
    simp only [AH.less] at e
    split at e
    · cases e
    · rename_i hf; exact ⟨by simpa using hf, e⟩
  have litr : ∀ {i it}, (h.less F).itr i = some it → h.itr i = some it := fun {i it} e => by
    simp only [AH.less] at e
    split at e
    · cases e
    · exact e
  have cellsOf : ∀ {t i es L}, h.arr t i = some es → m.loc t i = some L → 0 < L.num → ∃ c ty fr, w.heap[L.blk]? = some (.cells c ty fr) := fun {t i es L} e l p => by
    obtain ⟨L', a, b⟩ := H.live _ _ _ e
    rw [l] at a; cases a
    obtain ⟨c, fr, x, _⟩ := b.cells p
    exact ⟨c, _, fr, x⟩
  have mapOf : ∀ {t i es r}, h.map t i = some es → m.mloc t i = some r → ∃ ces ck, w.heap[r]? = some (.map ces ck) := fun {t i es r} e l => by
    obtain ⟨r', a, b⟩ := H.maps _ _ _ e
    rw [l] at a; cases a
    obtain ⟨ces, ck, x, _⟩ := b.ents
    exact ⟨ces, ck, x⟩
  refine { os := H.os, tape := H.tape, output := H.output, size := H.size, imm := ?_, old := ?_, live := ?_, maps := ?_, itrs := ?_, apart := ?_, mapart := H.mapart, mlt := H.mlt, iapart := ?_, sized := H.sized, fresh := H.fresh, pre := H.pre }
  · intro b o e
    unfold Emb.freeze at e
    simp only at e
    split at e
    · exact e
    · exact H.imm b o e
  · intro b hb
    have hb' : b < m.w0.heap.size := hb
    rw [freeze_old H (by rw [H.old b hb']; simp [hb'])]
    exact H.old b hb'
  · intro t i es e
    obtain ⟨hf, e⟩ := larr e
    obtain ⟨L, a, b⟩ := H.live _ _ _ e
    refine ⟨L, a, fun p => ?_, b.room, b.size, b.flat, b.pos, b.cnt, fun p => none_of _ (b.free p) ?_⟩
    · obtain ⟨c, fr, x, y, z, q⟩ := b.cells p
      exact ⟨c, fr, x, y, z, fun k u hu => by obtain ⟨v, v1, v2⟩ := q k u hu; exact ⟨v, v1, v2.mono hle⟩⟩
    · rintro (⟨t', i', es', L', g1, g2, g3, g4, g5⟩ | ⟨t', i', es', g1, g2, g3⟩)
      · have := (H.apart _ _ _ _ _ _ _ _ g2 e g3 a g4 p g5).2
        rw [this, hf] at g1; cases g1
      · obtain ⟨c, ty, fr, x⟩ := cellsOf e a p
        obtain ⟨ces, ck, y⟩ := mapOf g2 g3
        rw [x] at y; cases y
  · intro t i es e
    obtain ⟨hf, e⟩ := lmap e
    obtain ⟨r, a, b⟩ := H.maps _ _ _ e
    refine ⟨r, a, ?_, none_of _ b.free ?_⟩
    · obtain ⟨ces, ck, x1, x2, x3, x4, x5⟩ := b.ents
      exact ⟨ces, ck, x1, x2, fun i e c p q => (x3 i e c p q).mono hle, fun i e c p q => (x4 i e c p q).mono hle, x5⟩
    · rintro (⟨t', i', es', L', g1, g2, g3, g4, g5⟩ | ⟨t', i', es', g1, g2, g3⟩)
      · obtain ⟨c, ty, fr, x⟩ := cellsOf g2 g3 g4
        obtain ⟨ces, ck, y⟩ := mapOf e a
        rw [g5] at x; rw [x] at y; cases y
      · have := (H.mapart _ _ _ _ _ g3 a).2
        rw [this, hf] at g1; cases g1
  · intro i it e
    have e := litr e
    obtain ⟨r, a, b⟩ := H.itrs _ _ e
    refine ⟨r, a, ?_, none_of _ b.free ?_⟩
    · rcases b.obj with h1 | ⟨b', ces, ck, seen, y1, y2, y3, y4, y5, y6, y7, y8⟩
      · exact .inl h1
      · refine .inr ⟨b', ces, ck, seen, y1, fun hs => ?_, y3, y4, y5, y6, fun i e c p q => ?_, fun e he => ?_⟩
        · have := y2 hs
          rw [freeze_old H this]; exact this
        · obtain ⟨z1, z2⟩ := y7 i e c p q
          exact ⟨z1.mono hle, z2.mono hle⟩
        · obtain ⟨st, c, z1, z2, z3, z4⟩ := y8 e he
          exact ⟨st, c, z1, z2, z3.mono hle, z4.mono hle⟩
    · have hr : ∃ o1 o2 o3 o4, w.heap[r]? = some (.mapIter o1 o2 o3 o4) := by
        rcases b.obj with ⟨_, _, _, h1⟩ | ⟨b', ces, ck, seen, _, _, _, y4, _⟩
        · exact ⟨_, _, _, _, h1⟩
        · exact ⟨_, _, _, _, y4⟩
      obtain ⟨o1, o2, o3, o4, hr⟩ := hr
      rintro (⟨t', i', es', L', g1, g2, g3, g4, g5⟩ | ⟨t', i', es', g1, g2, g3⟩)
      · obtain ⟨c, ty, fr, x⟩ := cellsOf g2 g3 g4
        rw [g5, hr] at x; cases x
      · obtain ⟨ces, ck, y⟩ := mapOf g2 g3
        rw [hr] at y; cases y
  · intro t i es t' i' es' L L' e1 e2
    exact H.apart _ _ _ _ _ _ _ _ (larr e1).2 (larr e2).2
  · intro i it i' it' r e1 e2
    exact H.iapart _ _ _ _ _ (litr e1) (litr e2)


theorem flatC_part {sz : Nat} {es : List AV} {i n j : Nat} (h : ∀ e ∈ es, e.cells.length = sz) (hi : i + n ≤ es.length) (hj : j < n * sz) : (flatC es)[i * sz + j]? = (flatC ((es.drop i).take n))[j]? := by
  have h1 := flatC_drop h i (by omega)
  have h2 : flatC (es.drop i) = flatC ((es.drop i).take n) ++ flatC ((es.drop i).drop n) := by rw [← flatC_append, List.take_append_drop]
  have h3 : (flatC ((es.drop i).take n)).length = n * sz := by rw [flatC_length (fun e he => h e (List.mem_of_mem_drop (List.mem_of_mem_take he))), List.length_take, List.length_drop, Nat.min_eq_left (by omega)]
  have h4 : (flatC es)[i * sz + j]? = (flatC (es.drop i))[j]? := by rw [h1, List.getElem?_drop]
  rw [h4, h2, List.getElem?_append_left (by omega)]

theorem reads_vrel (H : HRel P m h w) {v p : AV} (R : Reads h F v p) : ∀ {c : Value}, VRel m v c → VRel (m.freeze h w F) p c := by
  have hle := freeze_le (F := F) H
  induction R with
  | refl v => intro c hv; exact hv.mono hle
  | drop v => intro c hv; exact .any c
  | nils sz => intro c hv; cases hv; exact .vals0 sz _ _
  | slc0 r sz =>
    intro c hv
    cases hv with
    | slc r n L c _ _ _ _ _ _ _ => exact .vals0 sz _ _
    | slc0 r L a _ _ => exact .vals0 sz _ _
  | iface t v v' _ ih => intro c hv; cases hv with | iface _ _ c hc => exact .iface _ _ _ (ih hc)
  | agg cs cs' hl _ ih =>
    intro c hv
    cases hv with
    | agg _ a h1 h2 =>
      refine .agg _ _ (by rw [← hl]; exact h1) fun i u' c' x y => ?_
      have hlt : i < cs.length := by rw [hl]; exact (List.getElem?_eq_some_iff.1 x).1
      exact ih i _ _ (List.getElem?_eq_getElem hlt) x (h2 i _ _ (List.getElem?_eq_getElem hlt) y)
  | tup cs cs' hl _ ih =>
    intro c hv
    cases hv with
    | tup _ a h1 h2 =>
      refine .tup _ _ (by rw [← hl]; exact h1) fun i u' c' x y => ?_
      have hlt : i < cs.length := by rw [hl]; exact (List.getElem?_eq_some_iff.1 x).1
      exact ih i _ _ (List.getElem?_eq_getElem hlt) x (h2 i _ _ (List.getElem?_eq_getElem hlt) y)
  | map t i es es' hF he hl _ _ ih1 ih2 =>
    intro c hv
    cases hv with
    | map _ _ r hr =>
      obtain ⟨r', a, b⟩ := H.maps _ _ _ he
      rw [hr] at a; cases a
      obtain ⟨ces, ck, x1, x2, x3, x4, x5⟩ := b.ents
      have get : ∀ {j : Nat} {e' : AV × AV}, es'[j]? = some e' → ∃ e, es[j]? = some e := fun {j e'} q => by
        have hlt : j < es.length := by rw [hl]; exact (List.getElem?_eq_some_iff.1 q).1
        exact ⟨_, List.getElem?_eq_getElem hlt⟩
      refine .imap _ r ces ck (by rw [freeze_map hF he hr]; exact x1) (by rw [← hl]; exact x2) (fun j e' c q1 q2 => ?_) (fun j e' c q1 q2 => ?_) x5
      · obtain ⟨e, q⟩ := get q1
        exact ih1 j e e' q q1 (x3 j e c q q2)
      · obtain ⟨e, q⟩ := get q1
        exact ih2 j e e' q q1 (x4 j e c q q2)
  | ptr r es e e' hF he hi hl _ ih =>
    intro c hv
    cases hv with
    | ptr _ L hL =>
      obtain ⟨L', a, b⟩ := H.live _ _ _ he
      rw [hL] at a; cases a
      have hidx := (List.getElem?_eq_some_iff.1 hi).1
      have hmem : e ∈ es := List.mem_of_getElem? hi
      have hpos : 0 < L.num := by
        have := b.room; have := b.pos
        have : 1 * L.sz ≤ es.length * L.sz := Nat.mul_le_mul_right _ (by omega)
        omega
      obtain ⟨cc, fr, y1, y2, y3, y4⟩ := b.cells hpos
      have himm : (m.freeze h w F).imm L.blk = some (.cells cc r.ty fr) := by rw [freeze_arr hF he hL hpos]; exact y1
      have hcell : ∀ j u, e.cells[j]? = some u → ∃ v, cc[L.base + r.idx * L.sz + j]? = some v ∧ VRel m u v := fun j u hu => by
        have hj : j < L.sz := by rw [← b.size e hmem]; exact (List.getElem?_eq_some_iff.1 hu).1
        obtain ⟨v, v1, v2⟩ := y4 (r.idx * L.sz + j) u (by rw [flatC_get b.size hi hj]; exact hu)
        exact ⟨v, by rw [Nat.add_assoc]; exact v1, v2⟩
      have hcell' : ∀ j, j < e.cells.length → ∃ v, cc[L.base + r.idx * L.sz + j]? = some v ∧ VRel m (e.cells[j]?.getD .any) v := fun j hj => by
        obtain ⟨v, v1, v2⟩ := hcell j _ (List.getElem?_eq_getElem hj)
        exact ⟨v, v1, by rw [List.getElem?_eq_getElem hj]; exact v2⟩
      refine .iptr e' r.off L.blk (L.base + r.idx * L.sz) (fun j => (cc[L.base + r.idx * L.sz + j]?).getD undef) (fun j hj => ?_) fun j u' hu => ?_
      · obtain ⟨v, v1, _⟩ := hcell' j (by rw [hl]; exact hj)
        unfold Emb.icell; rw [himm]; simp only; rw [v1]; rfl
      · have hj : j < e.cells.length := by rw [hl]; exact (List.getElem?_eq_some_iff.1 hu).1
        obtain ⟨v, v1, v2⟩ := hcell j _ (List.getElem?_eq_getElem hj)
        rw [v1]
        exact ih j _ u' (List.getElem?_eq_getElem hj) hu v2
  | slc r n es sz l hF he hn h0 hl hs hs' _ ih =>
    intro c hv
    cases hv with
    | slc0 r L a _ _ => omega
    | slc _ _ L c hL h1 h2 h3 h4 h5 h6 =>
      obtain ⟨L', a, b⟩ := H.live _ _ _ he
      rw [hL] at a; cases a
      have hpos : 0 < L.num := by
        have := b.room; have := b.pos
        have : 1 * L.sz ≤ es.length * L.sz := Nat.mul_le_mul_right _ (by omega)
        omega
      obtain ⟨cc, fr, y1, y2, y3, y4⟩ := b.cells hpos
      have himm : (m.freeze h w F).imm L.blk = some (.cells cc r.ty fr) := by rw [freeze_arr hF he hL hpos]; exact y1
      have hsz : sz = L.sz := by
        obtain ⟨e, he'⟩ := List.exists_mem_of_length_pos (l := es) (by omega)
        rw [← hs' e he', b.size e he']
      have hlen : (flatC l).length = n * sz := by rw [flatC_length hs, hl]
      have hlen' : (flatC ((es.drop r.idx).take n)).length = n * sz := by
        rw [flatC_length (sz := sz) fun e he => hs' e (List.mem_of_mem_drop (List.mem_of_mem_take he)), List.length_take, List.length_drop, Nat.min_eq_left (by omega)]
      have hcell : ∀ j u, (flatC ((es.drop r.idx).take n))[j]? = some u → ∃ v, cc[L.base + r.idx * L.sz + j]? = some v ∧ VRel m u v := fun j u hu => by
        have hj : j < n * sz := by rw [← hlen']; exact (List.getElem?_eq_some_iff.1 hu).1
        obtain ⟨v, v1, v2⟩ := y4 (r.idx * L.sz + j) u (by rw [← hu, ← flatC_part (sz := sz) hs' hn hj, hsz])
        exact ⟨v, by rw [Nat.add_assoc]; exact v1, v2⟩
      have e1 : L.addr r = ⟨L.blk, L.base + r.idx * L.sz, none⟩ := by simp [Loc.addr, h3]
      rw [e1]
      have hv : VRel (m.freeze h w F) (.vals sz l) (.slice (some ⟨L.blk, L.base + r.idx * L.sz, none⟩) l.length c) := by
        refine .vals sz l L.blk (L.base + r.idx * L.sz) c (fun j => (cc[L.base + r.idx * L.sz + j]?).getD undef) (by omega) (by omega) (by omega) hs (fun j hj => ?_) fun j u' hu => ?_
        · obtain ⟨v, v1, _⟩ := hcell j _ (List.getElem?_eq_getElem (by rw [hlen', ← hlen]; exact hj))
          unfold Emb.icell; rw [himm]; simp only; rw [v1]; rfl
        · have hj : j < (flatC l).length := (List.getElem?_eq_some_iff.1 hu).1
          obtain ⟨v, v1, v2⟩ := hcell j _ (List.getElem?_eq_getElem (by rw [hlen', ← hlen]; exact hj))
          rw [v1]
          exact ih j _ u' (List.getElem?_eq_getElem (by rw [hlen', ← hlen]; exact hj)) hu v2
      rw [hl] at hv; exact hv

end Gls
