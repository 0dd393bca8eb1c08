/- A call that hands back a plain value leaves memory just as it was; iterators may be forgotten. No condition. -/
import Derived.Test.YtfpkajhmelbbbaaGreatDoorGz
set_option linter.unusedVariables false
set_option linter.unusedSimpArgs false
namespace Gls
open Go
variable {P : Program}

/-- Only the objects of numbers below k. -/
def Emb.cut (m : Emb) (k : Nat) : Emb :=
  { m with loc := fun t i => if i < k then m.loc t i else none, mloc := fun t i => if i < k then m.mloc t i else none, iloc := fun i => if i < k then m.iloc i else none }

/-- A value that names no object from k on. -/
def Lo (k : Nat) (v : AV) : Prop := ∀ m c, VRel m v c → VRel (m.cut k) v c
def Lows (k : Nat) (l : List AV) : Prop := ∀ (i : Nat) (v : AV), l[i]? = some v → Lo k v

section
variable {k : Nat} {v : AV} {l : List AV}
theorem Lo.any : Lo k .any := fun m c r => .any c
theorem Lo.bool {b : Bool} : Lo k (.bool b) := fun m c r => by cases r; exact .bool _
theorem Lo.int {kd : IntKind} {n : Int} : Lo k (.int kd n) := fun m c r => by cases r; exact .int _ _
theorem Lo.float {kd : FloatKind} {n : Nat} : Lo k (.float kd n) := fun m c r => by cases r; exact .float _ _
theorem Lo.str {s : List UInt8} : Lo k (.str s) := fun m c r => by cases r; exact .str _
theorem Lo.nilp : Lo k .nilp := fun m c r => by cases r; exact .nilp
theorem Lo.nils : Lo k .nils := fun m c r => by cases r; exact .nils _
theorem Lo.nilm : Lo k .nilm := fun m c r => by cases r; exact .nilm
theorem Lo.nilf : Lo k .nilf := fun m c r => by cases r; exact .nilf
theorem Lo.nili : Lo k .nili := fun m c r => by cases r; exact .nili
theorem Lo.ptr {r : Ref} (h : r.id < k) : Lo k (.ptr r) := fun m c R => by cases R with | ptr _ L e => exact .ptr _ L (by simp only [Emb.cut]; rw [if_pos h]; exact e)
theorem Lo.slc {r : Ref} {n : Nat} (h : r.id < k) : Lo k (.slc r n) := fun m c R => by
  cases R with
  | slc _ _ L c e h1 h2 h3 h4 h5 h6 => exact .slc _ _ L c (by simp only [Emb.cut]; rw [if_pos h]; exact e) h1 h2 h3 h4 h5 h6
  | slc0 _ L a e h1 => exact .slc0 _ L a (by simp only [Emb.cut]; rw [if_pos h]; exact e) h1
theorem Lo.map {t i : Nat} (h : i < k) : Lo k (.map t i) := fun m c R => by cases R with | map _ _ r e => exact .map _ _ r (by simp only [Emb.cut]; rw [if_pos h]; exact e)
theorem Lo.itr {i : Nat} (h : i < k) : Lo k (.itr i) := fun m c R => by cases R with | itr _ r e => exact .itr _ r (by simp only [Emb.cut]; rw [if_pos h]; exact e)
theorem Lo.iptr {e : AV} {off : Nat} (h : Lows k e.cells) : Lo k (.iptr e off) := fun m c R => by
  cases R with | iptr _ _ b o f h1 h2 => exact .iptr e off b o f h1 fun j v hj => h j v hj _ _ (h2 j v hj)
theorem Lo.vals {sz : Nat} (h : Lows k (flatC l)) : Lo k (.vals sz l) := fun m c R => by
  cases R with
  | vals0 _ a c => exact .vals0 _ a c
  | vals _ _ b o c f h1 h2 h3 h4 h5 h6 => exact .vals _ _ b o c f h1 h2 h3 h4 h5 fun j v hj => h j v hj _ _ (h6 j v hj)
theorem Lo.imap {es : List (AV × AV)} (h1 : ∀ (i : Nat) (e : AV × AV), es[i]? = some e → Lo k e.1) (h2 : ∀ (i : Nat) (e : AV × AV), es[i]? = some e → Lo k e.2) : Lo k (.imap es) := fun m c R => by
  cases R with | imap _ r ces ck e a1 a2 a3 a4 => exact .imap _ r ces ck e a1 (fun i e c x y => h1 i e x _ _ (a2 i e c x y)) (fun i e c x y => h2 i e x _ _ (a3 i e c x y)) a4
theorem Lo.iface {t : Nat} (h : Lo k v) : Lo k (.iface t v) := fun m c R => by cases R with | iface _ _ c e => exact .iface _ _ _ (h _ _ e)
theorem Lo.agg (h : Lows k l) : Lo k (.agg l) := fun m c R => by
  cases R with | agg _ a h1 h2 => exact .agg _ a h1 fun i v c x y => h i v x _ _ (h2 i v c x y)
theorem Lo.tup (h : Lows k l) : Lo k (.tup l) := fun m c R => by
  cases R with | tup _ a h1 h2 => exact .tup _ a h1 fun i v c x y => h i v x _ _ (h2 i v c x y)
theorem Lo.fn {f : Fn} {l' : List AV} (h : Lows k l) (h' : Lows k l') : Lo k (.fn f l l') := fun m c R => by
  cases R with | fn _ _ _ a b h1 h2 h3 h4 => exact .fn _ _ _ a b h1 h2 (fun i v c x y => h i v x _ _ (h3 i v c x y)) fun i v c x y => h' i v x _ _ (h4 i v c x y)
theorem Lows.nil : Lows k [] := fun i v e => by simp at e
theorem Lows.cons (h : Lo k v) (t : Lows k l) : Lows k (v :: l) := fun i w e => by
  cases i with
  | zero => simp at e; subst e; exact h
  | succ i => exact t i w (by simpa using e)
theorem Lows.of (h : ∀ v ∈ l, Lo k v) : Lows k l := fun i v e => h v (List.mem_of_getElem? e)

/-- What stands for a value of a memory names its objects alone. -/
theorem VRel.lo {m : Emb} {c : Value} (r : VRel m v c) (h1 : ∀ t i L, m.loc t i = some L → i < k) (h2 : ∀ t i L, m.mloc t i = some L → i < k) (h3 : ∀ i L, m.iloc i = some L → i < k) : Lo k v := by
  induction r with
  | any v => exact .any
  | bool b => exact .bool
  | int k n => exact .int
  | float k n => exact .float
  | str s => exact .str
  | nilp => exact .nilp
  | ptr r L e => exact .ptr (h1 _ _ _ e)
  | iptr e off b o f a1 a2 ih => exact .iptr fun j v hj => ih j v hj
  | nils a => exact .nils
  | slc r n L c e _ _ _ _ _ _ => exact .slc (h1 _ _ _ e)
  | slc0 r L a e _ => exact .slc (h1 _ _ _ e)
  | vals0 sz a c => exact .vals .nil
  | vals sz l b o c f _ _ _ _ _ _ ih => exact .vals fun j v hj => ih j v hj
  | nilm => exact .nilm
  | map t i r e => exact .map (h2 _ _ _ e)
  | imap es r ces clock e a1 a2 a3 a4 ih1 ih2 =>
    have get : ∀ {j : Nat} {e : AV × AV}, es[j]? = some e → ∃ c, ces[j]? = some c := fun {j e} q => by
      have hlt : j < ces.size := by rw [← a1]; exact (List.getElem?_eq_some_iff.1 q).1
      exact ⟨_, Array.getElem?_eq_getElem hlt⟩
    exact .imap (fun i e x => by obtain ⟨c, y⟩ := get x; exact ih1 i e c x y) (fun i e x => by obtain ⟨c, y⟩ := get x; exact ih2 i e c x y)
  | itr i r e => exact .itr (h3 _ _ e)
  | fn f first caps a b l1 l2 _ _ ih1 ih2 =>
    exact .fn (fun i v x => by
      have hlt : i < a.size := by rw [← l1]; exact (List.getElem?_eq_some_iff.1 x).1
      exact ih1 i v _ x (Array.getElem?_eq_getElem hlt)) fun i v x => by
      have hlt : i < b.size := by rw [← l2]; exact (List.getElem?_eq_some_iff.1 x).1
      exact ih2 i v _ x (Array.getElem?_eq_getElem hlt)
  | nilf => exact .nilf
  | iface t v c _ ih => exact .iface ih
  | nili => exact .nili
  | agg cs a l1 _ ih =>
    exact .agg fun i v x => by
      have hlt : i < a.size := by rw [← l1]; exact (List.getElem?_eq_some_iff.1 x).1
      exact ih i v _ x (Array.getElem?_eq_getElem hlt)
  | tup cs a l1 _ ih =>
    exact .tup fun i v x => by
      have hlt : i < a.size := by rw [← l1]; exact (List.getElem?_eq_some_iff.1 x).1
      exact ih i v _ x (Array.getElem?_eq_getElem hlt)
end

section
variable {m : Emb} {h : AH} {w : World}
theorem HRel.locs (R : HRel P m h w) : (∀ t i L, m.loc t i = some L → i < h.next) ∧ (∀ t i L, m.mloc t i = some L → i < h.next) ∧ (∀ i L, m.iloc i = some L → i < h.next) := by
  refine ⟨fun t i L e => ?_, fun t i L e => ?_, fun i L e => ?_⟩
  · refine Nat.lt_of_not_le fun hle => ?_
    rw [(R.fresh t i hle).1] at e; cases e
  · refine Nat.lt_of_not_le fun hle => ?_
    rw [(R.fresh t i hle).2.1] at e; cases e
  · refine Nat.lt_of_not_le fun hle => ?_
    rw [(R.fresh 0 i hle).2.2] at e; cases e
theorem HRel.lo (R : HRel P m h w) {v : AV} {c : Value} (r : VRel m v c) : Lo h.next v := r.lo R.locs.1 R.locs.2.1 R.locs.2.2

theorem filt_get {α : Type} {a : Array α} {i : Nat} (h : i < a.size) : ∃ c, a[i]? = some c := ⟨_, Array.getElem?_eq_getElem h⟩

/-- Memory is as it was, but for numbers that nobody knows. -/
theorem HRel.unbump {m' : Emb} {w' : World} {n : Nat} (R : HRel P m h w) (hm : m.le m') (R' : HRel P m' (h.bump n) w') : m.le (m'.cut h.next) ∧ HRel P (m'.cut h.next) h w' := by
  have wf := R.wf
  obtain ⟨l1, l2, l3⟩ := R.locs
  refine ⟨⟨fun t i L e => ?_, fun t i L e => ?_, fun i L e => ?_, hm.imm, hm.w0⟩, ?_⟩
  · simp only [Emb.cut]; rw [if_pos (l1 _ _ _ e)]; exact hm.loc _ _ _ e
  · simp only [Emb.cut]; rw [if_pos (l2 _ _ _ e)]; exact hm.mloc _ _ _ e
  · simp only [Emb.cut]; rw [if_pos (l3 _ _ e)]; exact hm.iloc _ _ e
  have ltA : ∀ {t i es}, h.arr t i = some es → i < h.next := fun {t i es} e => Nat.lt_of_not_le fun hle => by rw [wf.arr t i hle] at e; cases e
  have ltM : ∀ {t i es}, h.map t i = some es → i < h.next := fun {t i es} e => Nat.lt_of_not_le fun hle => by rw [wf.map t i hle] at e; cases e
  have ltI : ∀ {i it}, h.itr i = some it → i < h.next := fun {i it} e => Nat.lt_of_not_le fun hle => by rw [wf.itr i hle] at e; cases e
  have cutA : ∀ {t i L}, (m'.cut h.next).loc t i = some L → m'.loc t i = some L := fun {t i L} e => by
    simp only [Emb.cut] at e; split at e
    · exact e
    · cases e
  have cutM : ∀ {t i L}, (m'.cut h.next).mloc t i = some L → m'.mloc t i = some L := fun {t i L} e => by
    simp only [Emb.cut] at e; split at e
    · exact e
    · cases e
  have cutI : ∀ {i L}, (m'.cut h.next).iloc i = some L → m'.iloc i = some L := fun {i L} e => by
    simp only [Emb.cut] at e; split at e
    · exact e
    · cases e
  refine { os := R'.os, tape := R'.tape, output := R'.output, size := R'.size, imm := R'.imm, old := R'.old, live := ?_, maps := ?_, itrs := ?_, apart := ?_, mapart := ?_, mlt := ?_, iapart := ?_, sized := ?_, fresh := ?_, pre := R'.pre }
  · intro t i es e
    obtain ⟨L, a, b⟩ := R'.live t i es e
    obtain ⟨L0, a0, b0⟩ := R.live t i es e
    have : L0 = L := by have := hm.loc _ _ _ a0; rw [a] at this; cases this; rfl
    subst this
    refine ⟨L0, by simp only [Emb.cut]; rw [if_pos (ltA e)]; exact a, fun p => ?_, b.room, b.size, b.flat, b.pos, b.cnt, b.free⟩
    obtain ⟨c, fr, x, y, z, q⟩ := b.cells p
    obtain ⟨c0, fr0, x0, y0, z0, q0⟩ := b0.cells p
    refine ⟨c, fr, x, y, z, fun k u hu => ?_⟩
    obtain ⟨v, v1, v2⟩ := q k u hu
    obtain ⟨v0, _, v3⟩ := q0 k u hu
    exact ⟨v, v1, R.lo v3 _ _ v2⟩
  · intro t i es e
    obtain ⟨r, a, b⟩ := R'.maps t i es e
    obtain ⟨r0, a0, b0⟩ := R.maps t i es e
    refine ⟨r, by simp only [Emb.cut]; rw [if_pos (ltM e)]; exact a, ?_, b.free⟩
    obtain ⟨ces, ck, x1, x2, x3, x4, x5⟩ := b.ents
    obtain ⟨ces0, ck0, y1, y2, y3, y4, y5⟩ := b0.ents
    have get : ∀ {j : Nat} {e : AV × AV}, es[j]? = some e → ∃ c, ces0[j]? = some c := fun {j e} q => filt_get (by rw [← y2]; exact (List.getElem?_eq_some_iff.1 q).1)
    refine ⟨ces, ck, x1, x2, fun i e c p q => ?_, fun i e c p q => ?_, x5⟩
    · obtain ⟨c0, g⟩ := get p; exact R.lo (y3 i e c0 p g) _ _ (x3 i e c p q)
    · obtain ⟨c0, g⟩ := get p; exact R.lo (y4 i e c0 p g) _ _ (x4 i e c p q)
  · intro i it e
    obtain ⟨r, a, b⟩ := R'.itrs i it e
    obtain ⟨r0, a0, b0⟩ := R.itrs i it e
    refine ⟨r, by simp only [Emb.cut]; rw [if_pos (ltI e)]; exact a, ?_, b.free⟩
    rcases b.obj with h1 | ⟨b', ces, ck, seen, y1, y2, y3, y4, y5, y6, y7, y8⟩
    · exact .inl h1
    · refine .inr ⟨b', ces, ck, seen, fun p hp => ?_, y2, y3, y4, y5, y6, ?_, ?_⟩
      · simp only [Emb.cut]; rw [if_pos (wf.src i it p.1 p.2 e (by rw [hp]))]; exact y1 p hp
      · intro j en c p q
        obtain ⟨z1, z2⟩ := y7 j en c p q
        rcases b0.obj with ⟨_, h2, _, _⟩ | ⟨b0', ces0, ck0, seen0, _, _, _, _, _, u6, u7, _⟩
        · rw [h2] at p; simp at p
        · obtain ⟨c0, g⟩ := filt_get (a := ces0.filter fun e => !seen0.contains e.born) (i := j) (by rw [← u6]; exact (List.getElem?_eq_some_iff.1 p).1)
          obtain ⟨t1, t2⟩ := u7 j en c0 p g
          exact ⟨R.lo t1 _ _ z1, R.lo t2 _ _ z2⟩
      · intro en he
        obtain ⟨st, c, z1, z2, z3, z4⟩ := y8 en he
        rcases b0.obj with ⟨_, _, h2, _⟩ | ⟨b0', ces0, ck0, seen0, _, _, _, _, _, _, _, u8⟩
        · rw [h2] at he; cases he
        · obtain ⟨_, c0, _, _, t3, t4⟩ := u8 en he
          exact ⟨st, c, z1, z2, R.lo t3 _ _ z3, R.lo t4 _ _ z4⟩
  · intro t i es t' i' es' L L' e e' x x' p p' hb
    exact R'.apart t i es t' i' es' L L' e e' (cutA x) (cutA x') p p' hb
  · intro t i t' i' r x x'
    exact R'.mapart t i t' i' r (cutM x) (cutM x')
  · intro t i r x
    exact R'.mlt t i r (cutM x)
  · intro i it i' it' r e e' x x'
    exact R'.iapart i it i' it' r e e' (cutI x) (cutI x')
  · intro t i L x
    exact R'.sized t i L (cutA x)
  · intro t i hle
    simp only [Emb.cut]
    rw [if_neg (by omega), if_neg (by omega), if_neg (by omega)]
    exact ⟨rfl, rfl, rfl⟩

/-- A call that hands back a plain value: nothing else is known anew. -/
theorem PCalls.clean {f : Nat} {vs : List AV} {v : AV} (H : PCalls P f vs h v) (hv : Lo h.next v) : ACalls P f vs h fun v' h' => v' = v ∧ h' = h := by
  intro m w cs R hvs
  refine Calls.mono (H m w cs R hvs) ?_
  rintro e w' ⟨m', v', h', c, h1, h2, h3, h4, rfl, n, rfl, h6⟩
  obtain ⟨a1, a2⟩ := R.unbump h1 h2
  exact ⟨m'.cut h.next, v', h, c, a1, a2, h3, hv _ _ h4, rfl, rfl⟩

/-- Iterators may be forgotten. -/
def AH.fewerI (h : AH) (p : Nat → Bool) : AH := { h with itr := fun i => if p i then h.itr i else none }
theorem HRel.fewerI (R : HRel P m h w) (p : Nat → Bool) : HRel P m (h.fewerI p) w := by
  have sub : ∀ {i it}, (h.fewerI p).itr i = some it → h.itr i = some it := fun {i it} e => by
    simp only [AH.fewerI] at e; split at e
    · exact e
    · cases e
  exact { os := R.os, tape := R.tape, output := R.output, size := R.size, imm := R.imm, old := R.old, live := R.live, maps := R.maps, itrs := fun i it e => R.itrs i it (sub e), apart := R.apart, mapart := R.mapart, mlt := R.mlt, iapart := fun i it i' it' r e e' => R.iapart i it i' it' r (sub e) (sub e'), sized := R.sized, fresh := R.fresh, pre := R.pre }
theorem ACalls.fewerI {f : Nat} {vs : List AV} {p : Nat → Bool} {Q Q' : AV → AH → Prop} (H : ACalls P f vs h Q) (k : ∀ v h', Q v h' → Q' v (h'.fewerI p)) : ACalls P f vs h Q' := fun m w cs R hv => Calls.mono (H m w cs R hv) fun e w' ⟨m', v, h', c, h1, h2, h3, h4, h5⟩ => ⟨m', v, h'.fewerI p, c, h1, h2.fewerI p, h3, h4, k _ _ h5⟩
end

theorem HRel.old_block {P : Program} {m : Emb} {h : AH} {w : World} (R : HRel P m h w) {b : Nat} {o : Obj} (e : m.w0.heap[b]? = some o) : w.heap[b]? = some o := by
  have hb := (Array.getElem?_eq_some_iff.1 e).1
  exact R.imm b o (by rw [R.old b hb]; exact e)

theorem HRel.tab {P : Program} {m : Emb} {h : AH} {w : World} (R : HRel P m h w) {name : String} {k : IntKind} {zs : List Int} (T : Lib.TabIs P m.w0 name k zs) : Lib.TabIs P w name k zs := by
  unfold Lib.TabIs World.var? at *
  cases hg : P.globalNamed name with
  | none => rw [hg] at T; cases T
  | some g =>
    rw [hg] at T
    simp only [Option.bind_some] at T ⊢
    split at T
    · rename_i cs t f hb
      rw [R.old_block hb]; exact T
    · cases T

theorem HRel.old_cell {P : Program} {m : Emb} {h : AH} {w : World} (R : HRel P m h w) {a : Addr} {v : Value} (e : m.w0.cell? a = some v) : w.cell? a = some v := by
  unfold World.cell? at *
  split at e
  · rename_i c t f hb
    rw [R.old_block hb]; exact e
  · cases e


theorem HRel.pre_now {P : Program} {m : Emb} {h : AH} {w : World} (R : HRel P m h w) : Pre P w :=
  ⟨fun g hg => by obtain ⟨x, hx⟩ := R.pre.1 g hg; exact ⟨x, R.old_cell hx⟩, R.tab R.pre.2⟩

/-- More places, whatever the world of the beginning. -/
structure Emb.sub (m m' : Emb) : Prop where
  loc : ∀ t i L, m.loc t i = some L → m'.loc t i = some L
  mloc : ∀ t i L, m.mloc t i = some L → m'.mloc t i = some L
  iloc : ∀ i L, m.iloc i = some L → m'.iloc i = some L
  imm : ∀ b o, m.imm b = some o → m'.imm b = some o
theorem VRel.sub {m m' : Emb} (h : m.sub m') {v : AV} {c : Value} (r : VRel m v c) : VRel m' v c := by
  have e : VRel { m' with w0 := m.w0 } v c := VRel.mono (m' := { m' with w0 := m.w0 }) ⟨h.loc, h.mloc, h.iloc, h.imm, rfl⟩ r
  have back : ∀ {w0 : World} {v : AV} {c : Value}, VRel { m' with w0 := w0 } v c → VRel m' v c := by
    intro w0 v c r
    induction r with
    | any v => exact .any v
    | bool b => exact .bool b
    | int k n => exact .int k n
    | float k n => exact .float k n
    | str s => exact .str s
    | nilp => exact .nilp
    | ptr r L e => exact .ptr r L e
    | iptr e off b o f h1 h2 ih => exact .iptr e off b o f h1 ih
    | nils a => exact .nils a
    | slc r n L c e h1 h2 h3 h4 h5 h6 => exact .slc r n L c e h1 h2 h3 h4 h5 h6
    | slc0 r L a e h1 => exact .slc0 r L a e h1
    | vals0 sz a c => exact .vals0 sz a c
    | vals sz l b o c f h1 h2 h3 h4 h5 h6 ih => exact .vals sz l b o c f h1 h2 h3 h4 h5 ih
    | nilm => exact .nilm
    | map t i r e => exact .map t i r e
    | imap es r ces clock e h1 h2 h3 h4 ih1 ih2 => exact .imap es r ces clock e h1 ih1 ih2 h4
    | itr i r e => exact .itr i r e
    | fn f first caps a b h1 h2 h3 h4 ih1 ih2 => exact .fn f first caps a b h1 h2 ih1 ih2
    | nilf => exact .nilf
    | iface t v c _ ih => exact .iface t v c ih
    | nili => exact .nili
    | agg cs a h1 _ ih => exact .agg cs a h1 ih
    | tup cs a h1 _ ih => exact .tup cs a h1 ih
  exact back e

/-- A value without memory. -/
def Atom (v : AV) : Prop := ∀ m m' c, VRel m v c → VRel m' v c
theorem Atom.bool {b : Bool} : Atom (.bool b) := fun m m' c r => by cases r; exact .bool _
theorem Atom.int {k : IntKind} {n : Int} : Atom (.int k n) := fun m m' c r => by cases r; exact .int _ _
theorem Atom.str {s : List UInt8} : Atom (.str s) := fun m m' c r => by cases r; exact .str _
def AH.empty : AH := { arr := fun _ _ => none, map := fun _ _ => none, itr := fun _ => none, next := 0 }

/-- What a call does in an empty memory it does in any, if it answers nothing of memory. -/
theorem ACalls.frame {P : Program} {f : Nat} {vs : List AV} {v : AV} (H : ACalls P f vs AH.empty fun v' _ => v' = v) (hv : Atom v) (hs : Lows 0 vs) (h : AH) : ACalls P f vs h fun v' h' => v' = v ∧ h' = h := by
  intro m w cs R hvs
  have R' : HRel P { loc := fun _ _ => none, mloc := fun _ _ => none, iloc := fun _ => none, imm := fun b => w.heap[b]?, w0 := w } AH.empty w :=
    { os := rfl, tape := rfl, output := rfl, size := Nat.le_refl _, imm := fun b o e => e, old := fun b _ => rfl, live := fun t i es e => (by cases e), maps := fun t i es e => (by cases e), itrs := fun i it e => (by cases e),
      apart := fun t i es t' i' es' L L' e => (by cases e), mapart := fun t i t' i' r e => (by cases e), mlt := fun t i r e => (by cases e), iapart := fun i it i' it' r e => (by cases e), sized := fun t i L e => (by cases e), fresh := fun _ _ _ => ⟨rfl, rfl, rfl⟩, pre := R.pre_now }
  refine Calls.mono (H _ w cs R' ⟨hvs.1, fun i u c x y => ?_⟩) ?_
  · have := hs i u x _ _ (hvs.2 i u c x y)
    exact VRel.sub (m := m.cut 0) ⟨fun t i L e => by simp [Emb.cut] at e, fun t i L e => by simp [Emb.cut] at e, fun i L e => by simp [Emb.cut] at e, fun b o e => R.imm b o e⟩ this
  · rintro e w' ⟨m', v', h', c, h1, h2, h3, h4, rfl⟩
    have e0 := h1.w0
    refine ⟨m, v', h, c, .refl m, R.grow (by rw [h2.os, e0]) (by rw [h2.tape, e0]) (by rw [h2.output, e0]) (by have := h2.size; rw [e0] at this; exact this) (fun b hb => ?_), h3, hv _ _ _ h4, rfl, rfl⟩
    have : w.heap[b]? = some w.heap[b] := by simp [hb]
    rw [this]
    exact h2.imm b _ (h1.imm b _ this)
end Gls
