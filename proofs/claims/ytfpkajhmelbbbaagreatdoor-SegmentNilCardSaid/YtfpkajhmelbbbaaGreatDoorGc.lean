/- How the relation between the view and a world goes on over the elementary changes of a world. No condition. -/
import Derived.Test.YtfpkajhmelbbbaaGreatDoorGb
set_option linter.unusedVariables false
set_option linter.unusedSimpArgs false
namespace Gls
open Go

theorem LiveAt.move {m m' : Emb} {w w' : World} {t : Nat} {es : List AV} {L : Loc} (h : LiveAt m w t es L) (hm : m.le m')
    (hw : 0 < L.num → w'.heap[L.blk]? = w.heap[L.blk]?) (hi : 0 < L.num → m'.imm L.blk = none) : LiveAt m' w' t es L :=
  ⟨fun h0 => by
    obtain ⟨c, fr, h1, h2, h3, h4⟩ := h.cells h0
    exact ⟨c, fr, (hw h0).trans h1, h2, h3, fun k u a => by obtain ⟨v, x, y⟩ := h4 k u a; exact ⟨v, x, y.mono hm⟩⟩, h.room, h.size, h.flat, h.pos, h.cnt, hi⟩

theorem MapAt.move {m m' : Emb} {w w' : World} {es : List (AV × AV)} {r : Nat} (h : MapAt m w es r) (hm : m.le m')
    (hw : w'.heap[r]? = w.heap[r]?) (hi : m'.imm r = none) : MapAt m' w' es r := by
  obtain ⟨ces, clock, h1, h2, h3, h4, h5⟩ := h.ents
  exact ⟨⟨ces, clock, hw.trans h1, h2, fun i e c a b => (h3 i e c a b).mono hm, fun i e c a b => (h4 i e c a b).mono hm, h5⟩, hi⟩

/-- Is a block what an iterator goes over? -/
def ItrSrc (m : Emb) (it : AItr) (b : Nat) : Prop := (∃ p, it.src = some p ∧ m.mloc p.1 p.2 = some b) ∨ m.imm b ≠ none

theorem ItrAt.move {m m' : Emb} {w w' : World} {it : AItr} {r : Nat} (h : ItrAt m w it r) (hm : m.le m')
    (hw : w'.heap[r]? = w.heap[r]?) (hb : ∀ b, ItrSrc m it b → w'.heap[b]? = w.heap[b]?) (hi : m'.imm r = none) : ItrAt m' w' it r := by
  refine ⟨?_, hi⟩
  rcases h.obj with ⟨h1, h2, h3, h4⟩ | ⟨b, ces, clock, seen, h1, h1', h2, h3, h4, h5, h6, h7⟩
  · exact .inl ⟨h1, h2, h3, hw.trans h4⟩
  · have hs : ItrSrc m it b := by
      cases hsrc : it.src with
      | none => exact .inr (h1' hsrc)
      | some p => exact .inl ⟨p, hsrc, h1 p hsrc⟩
    refine .inr ⟨b, ces, clock, seen, fun p hp => hm.mloc _ _ _ (h1 p hp), fun hn => ?_, (hb b hs).trans h2, hw.trans h3, h4, h5, fun i e c x y => ?_, fun e he => ?_⟩
    · have := h1' hn
      cases ho : m.imm b with
      | none => exact absurd ho this
      | some o => rw [hm.imm b o ho]; simp
    · obtain ⟨p, q⟩ := h6 i e c x y; exact ⟨p.mono hm, q.mono hm⟩
    · obtain ⟨s, c, p, q, u, v⟩ := h7 e he; exact ⟨s, c, p, q, u.mono hm, v.mono hm⟩

variable {P : Program} {m : Emb} {h : AH} {w w' : World}

theorem HRel.imm_lt (H : HRel P m h w) {b : Nat} {o : Obj} (e : m.imm b = some o) : b < w.heap.size := (Array.getElem?_eq_some_iff.1 (H.imm b o e)).1

theorem HRel.itr_src_lt (H : HRel P m h w) {i r b : Nat} {it : AItr} (hi : h.itr i = some it) (hr : m.iloc i = some r) (ha : ItrAt m w it r) (hs : ItrSrc m it b) : b < w.heap.size := by
  rcases hs with ⟨p, h1, h2⟩ | h1
  · rcases ha.obj with ⟨g, _⟩ | ⟨b', ces, clock, seen, g1, _, g2, _⟩
    · rw [g] at h1; cases h1
    · have := g1 p h1
      rw [h2] at this
      cases this
      exact (Array.getElem?_eq_some_iff.1 g2).1
  · cases ho : m.imm b with
    | none => exact absurd ho h1
    | some o => exact H.imm_lt ho

/-- A world that has blocks more. -/
theorem HRel.grow (H : HRel P m h w) (ho : w'.os = w.os) (ht : w'.tape = w.tape) (hp : w'.output = w.output) (hs : w.heap.size ≤ w'.heap.size)
    (hb : ∀ b, b < w.heap.size → w'.heap[b]? = w.heap[b]?) : HRel P m h w' := by
  have lt : ∀ {b o}, w.heap[b]? = some o → b < w.heap.size := fun e => (Array.getElem?_eq_some_iff.1 e).1
  refine ⟨ho.trans H.os, ht.trans H.tape, hp.trans H.output, Nat.le_trans H.size hs, fun b o e => (hb b (H.imm_lt e)).trans (H.imm b o e), H.old, ?_, ?_, ?_, H.apart, H.mapart, fun t i r e => Nat.lt_of_lt_of_le (H.mlt t i r e) hs, H.iapart, H.sized, H.fresh, H.pre⟩
  · intro t i es e
    obtain ⟨L, h1, h2⟩ := H.live t i es e
    exact ⟨L, h1, h2.move (.refl m) (fun h0 => hb _ (by obtain ⟨c, fr, g, _⟩ := h2.cells h0; exact lt g)) h2.free⟩
  · intro t i es e
    obtain ⟨r, h1, h2⟩ := H.maps t i es e
    exact ⟨r, h1, h2.move (.refl m) (hb _ (by obtain ⟨c, k, g, _⟩ := h2.ents; exact lt g)) h2.free⟩
  · intro i it e
    obtain ⟨r, h1, h2⟩ := H.itrs i it e
    refine ⟨r, h1, h2.move (.refl m) (hb _ ?_) (fun b hs => hb b (H.itr_src_lt e h1 h2 hs)) h2.free⟩
    rcases h2.obj with ⟨_, _, _, g⟩ | ⟨b', ces, clock, seen, _, _, _, g, _⟩ <;> exact lt g

theorem HRel.drawn (H : HRel P m h w) (n : Nat) : HRel P m h { w with drawn := n } := H.grow rfl rfl rfl (Nat.le_refl _) fun _ _ => rfl
theorem HRel.alloc (H : HRel P m h w) (o : Obj) : HRel P m h { w with heap := w.heap.push o } :=
  H.grow rfl rfl rfl (by simp) fun b hb => by simp [Array.getElem?_push, Nat.ne_of_lt hb]

/-- Fewer objects. -/
theorem HRel.fewer (H : HRel P m h w) {h' : AH} (ha : ∀ t i es, h'.arr t i = some es → h.arr t i = some es) (hm : ∀ t i es, h'.map t i = some es → h.map t i = some es)
    (hi : ∀ i it, h'.itr i = some it → h.itr i = some it) (hn : h.next ≤ h'.next) : HRel P m h' w :=
  ⟨H.os, H.tape, H.output, H.size, H.imm, H.old, fun t i es e => H.live t i es (ha t i es e), fun t i es e => H.maps t i es (hm t i es e), fun i it e => H.itrs i it (hi i it e),
    fun t i es t' i' es' L L' e e' => H.apart t i es t' i' es' L L' (ha _ _ _ e) (ha _ _ _ e'), H.mapart, H.mlt,
    fun i it i' it' r e e' => H.iapart i it i' it' r (hi _ _ e) (hi _ _ e'), H.sized, (fun t i hle => H.fresh t i (Nat.le_trans hn hle)), H.pre⟩

theorem HRel.dropArr (H : HRel P m h w) (t i : Nat) : HRel P m (h.setArr t i none) w :=
  H.fewer (fun t' i' es e => by simp only [AH.setArr] at e; split at e; cases e; exact e) (fun _ _ _ e => e) (fun _ _ e => e) (Nat.le_refl _)
theorem HRel.dropMap (H : HRel P m h w) (t i : Nat) : HRel P m (h.setMap t i none) w :=
  H.fewer (fun _ _ _ e => e) (fun t' i' es e => by simp only [AH.setMap] at e; split at e; cases e; exact e) (fun _ _ e => e) (Nat.le_refl _)
theorem HRel.dropItr (H : HRel P m h w) (i : Nat) : HRel P m (h.setItr i none) w :=
  H.fewer (fun _ _ _ e => e) (fun _ _ _ e => e) (fun i' it e => by simp only [AH.setItr] at e; split at e; cases e; exact e) (Nat.le_refl _)
theorem HRel.bump (H : HRel P m h w) {n : Nat} (hn : h.next ≤ n) : HRel P m (h.bump n) w := H.fewer (fun _ _ _ e => e) (fun _ _ _ e => e) (fun _ _ e => e) hn

/-- A block that is nobody's. -/
structure Nobody (m : Emb) (h : AH) (b : Nat) : Prop where
  arr : ∀ t i es L, h.arr t i = some es → m.loc t i = some L → 0 < L.num → L.blk ≠ b
  map : ∀ t i es r, h.map t i = some es → m.mloc t i = some r → r ≠ b
  itr : ∀ i it r, h.itr i = some it → m.iloc i = some r → r ≠ b
  src : ∀ i it, h.itr i = some it → ∀ p, it.src = some p → m.mloc p.1 p.2 ≠ some b
  imm : m.imm b = none

/-- A change in a block that is nobody's. -/
theorem HRel.poke (H : HRel P m h w) {b0 : Nat} (N : Nobody m h b0) (ho : w'.os = w.os) (ht : w'.tape = w.tape) (hp : w'.output = w.output) (hs : w'.heap.size = w.heap.size)
    (hb : ∀ b, b ≠ b0 → w'.heap[b]? = w.heap[b]?) : HRel P m h w' := by
  refine ⟨ho.trans H.os, ht.trans H.tape, hp.trans H.output, hs ▸ H.size, fun b o e => (hb b ?_).trans (H.imm b o e), H.old, ?_, ?_, ?_, H.apart, H.mapart, fun t i r e => by rw [hs]; exact H.mlt t i r e, H.iapart, H.sized, H.fresh, H.pre⟩
  · intro e'; subst e'; rw [N.imm] at e; cases e
  · intro t i es e
    obtain ⟨L, h1, h2⟩ := H.live t i es e
    exact ⟨L, h1, h2.move (.refl m) (fun h0 => hb _ (N.arr t i es L e h1 h0)) h2.free⟩
  · intro t i es e
    obtain ⟨r, h1, h2⟩ := H.maps t i es e
    exact ⟨r, h1, h2.move (.refl m) (hb _ (N.map t i es r e h1)) h2.free⟩
  · intro i it e
    obtain ⟨r, h1, h2⟩ := H.itrs i it e
    refine ⟨r, h1, h2.move (.refl m) (hb _ (N.itr i it r e h1)) (fun b hs => hb b ?_) h2.free⟩
    rintro rfl
    rcases hs with ⟨p, g1, g2⟩ | g
    · exact N.src i it e p g1 g2
    · exact g N.imm

/-- An object is put (anew) where the embedding says. -/
theorem HRel.putArr (H : HRel P m h w) {t i : Nat} {es : List AV} {L : Loc} (hl : m.loc t i = some L) (ha : LiveAt m w t es L)
    (hsep : 0 < L.num → ∀ t' i' es' L', h.arr t' i' = some es' → m.loc t' i' = some L' → 0 < L'.num → L'.blk = L.blk → t' = t ∧ i' = i) : HRel P m (h.setArr t i (some es)) w := by
  refine ⟨H.os, H.tape, H.output, H.size, H.imm, H.old, ?_, H.maps, H.itrs, ?_, H.mapart, H.mlt, H.iapart, H.sized, H.fresh, H.pre⟩
  · intro t' i' es' e
    simp only [AH.setArr] at e
    split at e
    · rename_i hti; obtain ⟨rfl, rfl⟩ := hti; cases e; exact ⟨L, hl, ha⟩
    · exact H.live t' i' es' e
  · intro t1 i1 es1 t2 i2 es2 L1 L2 e1 e2 g1 g2 p1 p2 hb
    simp only [AH.setArr] at e1 e2
    split at e1 <;> split at e2
    · rename_i a b; exact ⟨a.1.trans b.1.symm, a.2.trans b.2.symm⟩
    · rename_i a b
      obtain ⟨rfl, rfl⟩ := a
      have : L1 = L := by rw [hl] at g1; cases g1; rfl
      subst this
      obtain ⟨x, y⟩ := hsep p1 t2 i2 es2 L2 e2 g2 p2 hb.symm
      exact ⟨x.symm, y.symm⟩
    · rename_i a b
      obtain ⟨rfl, rfl⟩ := b
      have : L2 = L := by rw [hl] at g2; cases g2; rfl
      subst this
      exact hsep p2 t1 i1 es1 L1 e1 g1 p1 hb
    · exact H.apart t1 i1 es1 t2 i2 es2 L1 L2 e1 e2 g1 g2 p1 p2 hb

theorem HRel.putMap (H : HRel P m h w) {t i r : Nat} {es : List (AV × AV)} (hl : m.mloc t i = some r) (ha : MapAt m w es r) : HRel P m (h.setMap t i (some es)) w := by
  refine ⟨H.os, H.tape, H.output, H.size, H.imm, H.old, H.live, ?_, H.itrs, H.apart, H.mapart, H.mlt, H.iapart, H.sized, H.fresh, H.pre⟩
  intro t' i' es' e
  simp only [AH.setMap] at e
  split at e
  · rename_i hti; obtain ⟨rfl, rfl⟩ := hti; cases e; exact ⟨r, hl, ha⟩
  · exact H.maps t' i' es' e

theorem HRel.putItr (H : HRel P m h w) {i r : Nat} {it : AItr} (hl : m.iloc i = some r) (ha : ItrAt m w it r)
    (hsep : ∀ i' it', h.itr i' = some it' → m.iloc i' = some r → i' = i) : HRel P m (h.setItr i (some it)) w := by
  refine ⟨H.os, H.tape, H.output, H.size, H.imm, H.old, H.live, H.maps, ?_, H.apart, H.mapart, H.mlt, ?_, H.sized, H.fresh, H.pre⟩
  · intro i' it' e
    simp only [AH.setItr] at e
    split at e
    · rename_i hi; subst hi; cases e; exact ⟨r, hl, ha⟩
    · exact H.itrs i' it' e
  · intro i1 it1 i2 it2 r' e1 e2 g1 g2
    simp only [AH.setItr] at e1 e2
    split at e1 <;> split at e2
    · rename_i a b; exact a.trans b.symm
    · rename_i a b
      subst a
      have : r' = r := by rw [hl] at g1; cases g1; rfl
      subst this
      exact (hsep i2 it2 e2 g2).symm
    · rename_i a b
      subst b
      have : r' = r := by rw [hl] at g2; cases g2; rfl
      subst this
      exact hsep i1 it1 e1 g1
    · exact H.iapart i1 it1 i2 it2 r' e1 e2 g1 g2

/-- A number that hasn't been given gets a place. -/
def Emb.give (m : Emb) (t i : Nat) (L : Loc) : Emb := { m with loc := fun t' i' => if t' = t ∧ i' = i then some L else m.loc t' i' }
def Emb.giveMap (m : Emb) (t i r : Nat) : Emb := { m with mloc := fun t' i' => if t' = t ∧ i' = i then some r else m.mloc t' i' }
def Emb.giveItr (m : Emb) (i r : Nat) : Emb := { m with iloc := fun i' => if i' = i then some r else m.iloc i' }

theorem Emb.le_give {m : Emb} {t i : Nat} {L : Loc} (h : m.loc t i = none) : m.le (m.give t i L) :=
  ⟨fun t' i' L' e => by simp only [Emb.give]; split; (rename_i x; obtain ⟨rfl, rfl⟩ := x; rw [h] at e; cases e); exact e, fun _ _ _ e => e, fun _ _ e => e, fun _ _ e => e, rfl⟩
theorem Emb.le_giveMap {m : Emb} {t i r : Nat} (h : m.mloc t i = none) : m.le (m.giveMap t i r) :=
  ⟨fun _ _ _ e => e, fun t' i' L' e => by simp only [Emb.giveMap]; split; (rename_i x; obtain ⟨rfl, rfl⟩ := x; rw [h] at e; cases e); exact e, fun _ _ e => e, fun _ _ e => e, rfl⟩
theorem Emb.le_giveItr {m : Emb} {i r : Nat} (h : m.iloc i = none) : m.le (m.giveItr i r) :=
  ⟨fun _ _ _ e => e, fun _ _ _ e => e, fun i' L' e => by simp only [Emb.giveItr]; split; (rename_i x; subst x; rw [h] at e; cases e); exact e, fun _ _ e => e, rfl⟩

/-- A greater embedding with the same frozen blocks. -/
theorem HRel.emb (H : HRel P m h w) {m' : Emb} (hm : m.le m') (hi : m'.imm = m.imm) (hz : ∀ t i L, m'.loc t i = some L → sizeOf? P t = some L.sz ∧ L.base % L.sz = 0)
    (hma : ∀ t i t' i' r, m'.mloc t i = some r → m'.mloc t' i' = some r → t = t' ∧ i = i') (hml : ∀ t i r, m'.mloc t i = some r → r < w.heap.size) (hf : ∀ t i, h.next ≤ i → m'.loc t i = none ∧ m'.mloc t i = none ∧ m'.iloc i = none) : HRel P m' h w := by
  have e0 := hm.w0
  have keep : ∀ t i es L, h.arr t i = some es → m'.loc t i = some L → m.loc t i = some L := fun t i es L e g => by
    obtain ⟨L', h1, _⟩ := H.live t i es e
    have := hm.loc _ _ _ h1
    rw [g] at this; cases this; exact h1
  have keepI : ∀ i it r, h.itr i = some it → m'.iloc i = some r → m.iloc i = some r := fun i it r e g => by
    obtain ⟨r', h1, _⟩ := H.itrs i it e
    have := hm.iloc _ _ h1
    rw [g] at this; cases this; exact h1
  refine ⟨by rw [e0]; exact H.os, by rw [e0]; exact H.tape, by rw [e0]; exact H.output, by rw [e0]; exact H.size, by rw [hi]; exact H.imm, by rw [hi, e0]; exact H.old, ?_, ?_, ?_,
    fun t i es t' i' es' L L' e e' g g' => H.apart t i es t' i' es' L L' e e' (keep _ _ _ _ e g) (keep _ _ _ _ e' g'),
    hma, hml,
    fun i it i' it' r e e' g g' => H.iapart i it i' it' r e e' (keepI _ _ _ e g) (keepI _ _ _ e' g'), hz, hf, by rw [e0]; exact H.pre⟩
  · intro t i es e
    obtain ⟨L, h1, h2⟩ := H.live t i es e
    exact ⟨L, hm.loc _ _ _ h1, h2.move hm (fun _ => rfl) (by rw [hi]; exact h2.free)⟩
  · intro t i es e
    obtain ⟨r, h1, h2⟩ := H.maps t i es e
    exact ⟨r, hm.mloc _ _ _ h1, h2.move hm rfl (by rw [hi]; exact h2.free)⟩
  · intro i it e
    obtain ⟨r, h1, h2⟩ := H.itrs i it e
    exact ⟨r, hm.iloc _ _ h1, h2.move hm rfl (fun _ _ => rfl) (by rw [hi]; exact h2.free)⟩

/-- A new object. -/
theorem HRel.newArr (H : HRel P m h w) {t : Nat} {es : List AV} {L : Loc} (ha : LiveAt m w t es L) (hz : sizeOf? P t = some L.sz ∧ L.base % L.sz = 0)
    (hsep : 0 < L.num → ∀ t' i' es' L', h.arr t' i' = some es' → m.loc t' i' = some L' → 0 < L'.num → L'.blk ≠ L.blk) :
    m.le (m.give t h.next L) ∧ HRel P (m.give t h.next L) (h.push t es) w := by
  have hf := (H.fresh t h.next (Nat.le_refl _)).1
  have hle : m.le (m.give t h.next L) := Emb.le_give hf
  refine ⟨hle, ?_⟩
  have H1 : HRel P (m.give t h.next L) (h.bump (h.next + 1)) w := (H.bump (Nat.le_succ _)).emb hle rfl (fun t' i L' e => by
    simp only [Emb.give] at e; split at e
    · rename_i x; obtain ⟨rfl, rfl⟩ := x; cases e; exact hz
    · exact H.sized t' i L' e) H.mapart H.mlt fun t' i hi => by
    obtain ⟨a, b, c⟩ := H.fresh t' i (Nat.le_trans (Nat.le_succ _) hi)
    refine ⟨?_, b, c⟩
    simp only [Emb.give]; rw [if_neg]; exact a
    rintro ⟨_, rfl⟩; exact absurd hi (by simp [AH.bump])
  have hl : (m.give t h.next L).loc t h.next = some L := by simp [Emb.give]
  have := H1.putArr hl (ha.move hle (fun _ => rfl) ha.free) fun h0 t' i' es' L' e g p hb => ?_
  · exact this
  · by_cases hc : t' = t ∧ i' = h.next
    · exact hc
    · simp only [Emb.give, hc, if_false] at g
      exact absurd hb (hsep h0 t' i' es' L' e g p)

theorem HRel.newMap (H : HRel P m h w) {t r : Nat} {es : List (AV × AV)} (ha : MapAt m w es r)
    (hsep : ∀ t' i', m.mloc t' i' ≠ some r) (hlt : r < w.heap.size) :
    m.le (m.giveMap t h.next r) ∧ HRel P (m.giveMap t h.next r) (h.pushMap t es) w := by
  have hf := (H.fresh t h.next (Nat.le_refl _)).2.1
  have hle : m.le (m.giveMap t h.next r) := Emb.le_giveMap hf
  refine ⟨hle, ?_⟩
  have H1 : HRel P (m.giveMap t h.next r) (h.bump (h.next + 1)) w := (H.bump (Nat.le_succ _)).emb hle rfl H.sized (fun t1 i1 t2 i2 r' e1 e2 => by
    simp only [Emb.giveMap] at e1 e2
    split at e1 <;> split at e2
    · rename_i x y; exact ⟨x.1.trans y.1.symm, x.2.trans y.2.symm⟩
    · cases e1; exact absurd e2 (hsep _ _)
    · cases e2; exact absurd e1 (hsep _ _)
    · exact H.mapart t1 i1 t2 i2 r' e1 e2) (fun t1 i1 r' e1 => by
    simp only [Emb.giveMap] at e1
    split at e1
    · cases e1; exact hlt
    · exact H.mlt t1 i1 r' e1) fun t' i hi => by
    obtain ⟨a, b, c⟩ := H.fresh t' i (Nat.le_trans (Nat.le_succ _) hi)
    refine ⟨a, ?_, c⟩
    simp only [Emb.giveMap]; rw [if_neg]; exact b
    rintro ⟨_, rfl⟩; exact absurd hi (by simp [AH.bump])
  have hl : (m.giveMap t h.next r).mloc t h.next = some r := by simp [Emb.giveMap]
  exact H1.putMap hl (ha.move hle rfl ha.free)

theorem HRel.newItr (H : HRel P m h w) {r : Nat} {it : AItr} (ha : ItrAt m w it r)
    (hsep : ∀ i' it', h.itr i' = some it' → m.iloc i' ≠ some r) :
    m.le (m.giveItr h.next r) ∧ HRel P (m.giveItr h.next r) (h.pushItr it) w := by
  have hf := (H.fresh 0 h.next (Nat.le_refl _)).2.2
  have hle : m.le (m.giveItr h.next r) := Emb.le_giveItr hf
  refine ⟨hle, ?_⟩
  have H1 : HRel P (m.giveItr h.next r) (h.bump (h.next + 1)) w := (H.bump (Nat.le_succ _)).emb hle rfl H.sized H.mapart H.mlt fun t' i hi => by
    obtain ⟨a, b, c⟩ := H.fresh t' i (Nat.le_trans (Nat.le_succ _) hi)
    refine ⟨a, b, ?_⟩
    simp only [Emb.giveItr]; rw [if_neg]; exact c
    rintro rfl; exact absurd hi (by simp [AH.bump])
  have hl : (m.giveItr h.next r).iloc h.next = some r := by simp [Emb.giveItr]
  have := H1.putItr hl (ha.move hle rfl (fun _ _ => rfl) ha.free) fun i' it' e g => ?_
  · exact this
  · by_cases hc : i' = h.next
    · exact hc
    · simp only [Emb.giveItr, hc, if_false] at g
      exact absurd g (hsep i' it' e)

/-- No object has a number that hasn't been given. -/
theorem HRel.wf (H : HRel P m h w) : h.WF := by
  refine ⟨fun t i hi => ?_, fun t i hi => ?_, fun i hi => ?_, fun k a t i e hs => ?_⟩
  · cases e : h.arr t i with
    | none => rfl
    | some es => obtain ⟨L, g, _⟩ := H.live t i es e; rw [(H.fresh t i hi).1] at g; cases g
  · cases e : h.map t i with
    | none => rfl
    | some es => obtain ⟨L, g, _⟩ := H.maps t i es e; rw [(H.fresh t i hi).2.1] at g; cases g
  · cases e : h.itr i with
    | none => rfl
    | some es => obtain ⟨L, g, _⟩ := H.itrs i es e; rw [(H.fresh 0 i hi).2.2] at g; cases g
  · obtain ⟨r, g1, g2⟩ := H.itrs k a e
    rcases g2.obj with ⟨g, _⟩ | ⟨b, ces, clock, seen, g, _⟩
    · rw [hs] at g; cases g
    · have := g _ hs
      by_cases hlt : i < h.next
      · exact hlt
      · rw [(H.fresh t i (Nat.le_of_not_lt hlt)).2.1] at this; cases this

end Gls
