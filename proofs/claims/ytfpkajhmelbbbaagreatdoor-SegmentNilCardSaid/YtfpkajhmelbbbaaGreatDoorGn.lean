/- Every operation that changes memory: what the view says holds of the model's. No condition. -/
import Derived.Test.YtfpkajhmelbbbaaGreatDoorGm
set_option linter.unusedVariables false
set_option linter.unusedSimpArgs false
namespace Gls
open Go
variable {P : Program} {m : Emb} {h : AH} {w : World}

/-- What an operation that changes memory has come to. -/
def Did (P : Program) (m : Emb) (K : AV → AH → Prop) (r : Result Next) : Prop :=
  ∃ nx m' v h' c w', r = .ok nx w' ∧ (nx = .value c ∨ (nx = .skip ∧ c = undef)) ∧ m.le m' ∧ HRel P m' h' w' ∧ VRel m' v c ∧ K v h'

theorem noFrost0 (n : Nat) : noFrost (0, 0) n := fun o _ h => by simp at h

theorem flat_mem {v : AV} (h : flat v) : ∀ u ∈ v.cells, u.noAgg = true := h

theorem cells_of_flat {v : AV} {c : Value} (h : VRel m v c) (hf : flat v) : VRels m v.cells c.cells.toList :=
  h.cells_rel (by rintro rfl; have := hf .any (by simp [AV.cells]); simp [AV.noAgg] at this)

theorem newVar_sound (H : HRel P m h w) {T sz : Nat} {v : AV} {c : Value} {K : AV → AH → Prop} (hz : sizeOf? P T = some sz) (h0 : 0 < sz) (hs : v.cells.length = sz) (hf : flat v) (hv : VRel m v c)
    (hK : K (.ptr ⟨T, h.next, 0, 0⟩) (h.push T [v])) {s : Sem Value} (hr : s.run P w = .ok (.pointer (some ⟨w.heap.size, 0, none⟩)) { w with heap := w.heap.push (.cells c.cells T (0, 0)) }) :
    Did P m K ((do pure (Next.value (← s)) : Sem Next).run P w) := by
  have hc := cells_of_flat hv hf
  have hl : c.cells.size = sz := by have := hc.1; simp at this; omega
  obtain ⟨h1, h2, h3⟩ := H.newRow hz h0 (es := [v]) (cs := c.cells) (fr := (0, 0)) (noFrost0 _) (by simp [hs]) (fun e u he hu => by simp at he; subst he; exact hf u hu) (by simp [hl])
    (fun k u hk => by
      simp [flatC] at hk
      obtain ⟨c', g1, g2⟩ := hc.get hk
      exact ⟨c', by simpa using g1, g2⟩) w.drawn
  refine ⟨_, _, _, _, _, _, by simp [hr]; rfl, .inl rfl, h1, h2, ?_, hK⟩
  have := VRel.ptr (m := m.give T h.next ⟨w.heap.size, 0, sz, c.cells.size, [v].length⟩) ⟨T, h.next, 0, 0⟩ _ h3
  simpa [Loc.addr] using this

theorem alloc_sound (H : HRel P m h w) {T : Nat} {z : Value} {K : AV → AH → Prop} (hz : sizeOf? P T = some z.cells.size) (hzero : zeroOf P T = some z)
    (hw : (0 < z.cells.size ∧ (absC z).cells.length = z.cells.size ∧ flat (absC z)) ∧ K (.ptr ⟨T, h.next, 0, 0⟩) (h.push T [absC z])) :
    Did P m K ((do pure (Next.value (← Instr.alloc T true (.tuple #[]))) : Sem Next).run P w) := by
  obtain ⟨⟨h0, h1, h2⟩, hK⟩ := hw
  exact newVar_sound H hz h0 h1 h2 (absC_rel m z) hK (by simp [Instr.alloc, run_zeroValue hzero, newVar, Go.newRow])

theorem box_sound (H : HRel P m h w) {T sz : Nat} {v : AV} {c : Value} {K : AV → AH → Prop} (hz : sizeOf? P T = some sz) (hv : VRel m v c)
    (hw : (0 < sz ∧ v.cells.length = sz ∧ flat v) ∧ K (.ptr ⟨T, h.next, 0, 0⟩) (h.push T [v])) :
    Did P m K ((do pure (Next.value (← Instr.box T c)) : Sem Next).run P w) := by
  obtain ⟨⟨h0, h1, h2⟩, hK⟩ := hw
  exact newVar_sound H hz h0 h1 h2 hv hK (by simp [Instr.box, newVar, Go.newRow])

theorem store_sound (H : HRel P m h w) {t sz : Nat} {p v : AV} {cp cv : Value} {K : AV → AH → Prop} (hz : sizeOf? P t = some sz) (hp : VRel m p cp) (hv : VRel m v cv)
    (hw : aStore sz p v h fun h' => K .any h') : Did P m K ((do Instr.storeAt t cp cv; pure .skip : Sem Next).run P w) := by
  unfold aStore at hw
  split at hw
  · rename_i r
    obtain ⟨es, h1, e, h2, ⟨h0, h3, h4, h5⟩, hK⟩ := hw
    obtain ⟨L, hl, rfl, ha, _⟩ := ptr_cells H hp h1 h2
    have hc := cells_of_flat hv h5
    have hcs : cv.cells.size = sz := by have := hc.1; simp at this; omega
    have hlt : r.idx < es.length := (List.getElem?_eq_some_iff.1 h2).1
    have hmem : e ∈ es := List.mem_of_getElem? h2
    have hesz := ha.size e hmem
    have hput : (putCells e r.off v).cells = setRange e.cells r.off v.cells := by
      unfold putCells
      split
      · rfl
      · rename_i hne
        have he1 : e.cells = [e] := by cases e <;> first | rfl | exact absurd rfl (hne _)
        rw [he1] at h3 ⊢
        simp at h3
        have h6 : r.off = 0 := by omega
        rw [h6]
        unfold setRange
        simp [h4, show sz = 1 by omega]
    have hputl : (putCells e r.off v).cells.length = L.sz := by rw [hput, setRange_length _ _ _ (by omega), hesz]
    have hfle := flatC_length ha.size
    have hmul : (r.idx + 1) * L.sz ≤ es.length * L.sz := Nat.mul_le_mul_right _ hlt
    rw [Nat.succ_mul] at hmul
    obtain ⟨c, fr, g1, g2, g3⟩ := ha.poke (P := P) (es' := es.set r.idx (putCells e r.off v)) (p := r.idx * L.sz + r.off) hc (by simp)
      (fun x hx => by
        rcases List.mem_or_eq_of_mem_set hx with hx | rfl
        · exact ha.size x hx
        · exact hputl)
      (fun x u hx hu => by
        rcases List.mem_or_eq_of_mem_set hx with hx | rfl
        · exact ha.flat x u hx hu
        · rw [hput] at hu
          rcases setRange_mem hu with hu | hu
          · exact ha.flat e u hmem hu
          · exact h5 u hu)
      (by
        rw [set_eq_setRange _ _ _ hlt, flatC_setRange ha.size (by simp [hputl]) (by simp; omega)]
        simp only [flatC, List.flatMap_cons, List.flatMap_nil, List.append_nil]
        rw [hput]
        exact setRange_setRange _ _ _ _ _ (by rw [hesz]; show _ ≤ (flatC es).length; omega) (by omega) (fun k hk => flatC_get ha.size h2 (by omega)))
      (by omega) h5 (by omega)
    have H2 := H.pokeArr h1 hl ha (ha.num_pos (by omega)) g3
    refine ⟨_, m, .any, _, undef, _, ?_, .inr ⟨rfl, rfl⟩, .refl m, H2, .any _, hK⟩
    have : (Instr.storeAt t (.pointer (some ⟨L.blk, L.base + r.idx * L.sz + r.off, none⟩)) cv).run P w = .ok () (putBlk w L.blk (.cells (putAt c (L.base + (r.idx * L.sz + r.off)) cv.cells.toList) r.ty fr)) := by
      simp only [Instr.storeAt, Instr.sureAddr, storeVar, Sem.run_bind, Sem.run_pure, Result.andThen_ok, run_sizeOf hz]
      rw [if_neg (by simp [hcs])]
      rw [show L.base + r.idx * L.sz + r.off = L.base + (r.idx * L.sz + r.off) by omega]
      simpa using g2
    simp [this]
  · exact hw.elim

theorem push_modify (a : Array Obj) (o : Obj) (f : Obj → Obj) : (a.push o).modify a.size f = a.push (f o) := by
  apply Array.ext_getElem?
  intro i
  rw [Array.getElem?_modify, Array.getElem?_push, Array.getElem?_push]
  by_cases h : i = a.size
  · subst h; simp
  · rw [if_neg h, if_neg h, if_neg (fun e => h e.symm)]

theorem freeze_push (w : World) (c : Array Value) (t n d : Nat) : ({ w with heap := w.heap.push (.cells c t (0, 0)), drawn := d } : World).freeze ⟨w.heap.size, n, none⟩ 1 =
    { w with heap := w.heap.push (.cells c t (n, n + 1)), drawn := d } := by
  unfold World.freeze
  rw [if_neg (by omega)]
  simp only
  rw [push_modify]
  rfl

theorem s2b_sound (H : HRel P m h w) {src dst T : Nat} {x : AV} {c : Value} {K : AV → AH → Prop} (hs : P.underlying src = some .string) (hd : P.underlying dst = some (.slice T)) (hT : P.underlying T = some (.int .u8)) (hz : sizeOf? P T = some 1)
    (hw : match x with | .str s => K (.slc ⟨T, h.next, 0, 0⟩ s.length) (h.push T (s.map fun b => .int .u8 b.toNat)) | _ => False) (hx : VRel m x c) :
    Did P m K ((do pure (Next.value (← convert src dst c)) : Sem Next).run P w) := by
  cases x <;> try exact hw.elim
  · rename_i s
    obtain rfl := hx.str_inv
    let cap := Question.cut (.appendCap (ByteArray.mk s.toArray).size 0 T) (w.tape w.drawn (.appendCap (ByteArray.mk s.toArray).size 0 T))
    have hcap : s.length ≤ cap := by
      show s.length ≤ _ + _
      rw [mk_size]; omega
    let cells : Array Value := (s.toArray.map fun b => Value.int .u8 b.toNat) ++ Array.replicate (cap - s.length) (.int .u8 0)
    have hcs : cells.size = cap := by simp [cells]; omega
    have hfl : flatC (s.map fun b => AV.int .u8 b.toNat) = s.map fun b => AV.int .u8 b.toNat := flatC_ints (by simp)
    obtain ⟨h1, h2, h3⟩ := H.newRow hz (by omega) (es := s.map fun b => .int .u8 b.toNat) (cs := cells) (fr := (cap, cap + 1)) (fun o ho hh => by simp at hh; omega)
      (by simp [AV.cells]) (fun e u he hu => by simp at he; obtain ⟨b, _, rfl⟩ := he; simp [AV.cells] at hu; subst hu; rfl) (by simp [hcs]; omega)
      (fun k u hk => by
        rw [hfl] at hk
        simp only [List.getElem?_map] at hk
        cases hb : s[k]? with
        | none => simp [hb] at hk
        | some b =>
          simp [hb] at hk; subst hk
          have hlt := (List.getElem?_eq_some_iff.1 hb).1
          refine ⟨.int .u8 b.toNat, ?_, .int _ _⟩
          simp only [cells]
          rw [Array.getElem?_append_left (by simpa using hlt)]
          simp [hb]) (w.drawn + 1)
    refine ⟨.value (.slice (some ⟨w.heap.size, 0, none⟩) s.length cap), _, _, _, _, { w with heap := w.heap.push (.cells cells T (cap, cap + 1)), drawn := w.drawn + 1 }, ?_, .inl rfl, h1, h2, ?_, hw⟩
    · have hne : cap ≠ cap + 1 := by omega
      have hrun : (Conv.stringToBytes T ⟨s.toArray⟩).run P w = .ok (.slice (some ⟨w.heap.size, 0, none⟩) s.length cap) { w with heap := w.heap.push (.cells cells T (cap, cap + 1)), drawn := w.drawn + 1 } := by
        simp only [Conv.stringToBytes, Sem.run_bind, run_choose, Question.forced, Bool.false_eq_true, if_false, Result.andThen_ok, Go.newRow, run_newObj, Sem.run_pure, markStringish, run_shape]
        have e1 : (Array.map (fun b => Value.int .u8 b.toNat) s.toArray ++ Array.replicate (cap - (ByteArray.mk s.toArray).size) (Value.int .u8 0)) = cells := by simp [cells, mk_size]
        have hcap' : (Question.appendCap (ByteArray.mk s.toArray).size 0 T).cut (w.tape w.drawn (.appendCap (ByteArray.mk s.toArray).size 0 T)) = cap := rfl
        rw [hcap', e1]
        have hsh : World.shape? { w with heap := w.heap.push (.cells cells T (0, 0)), drawn := w.drawn + 1 } w.heap.size = some (T, cap) := by simp [World.shape?, hcs]
        rw [hsh]
        simp only [run_freeze, Result.andThen_ok, Sem.run_bind, Sem.run_pure]
        rw [show ({ block := w.heap.size, off := cap } : Addr) = ⟨w.heap.size, cap, none⟩ from rfl, freeze_push, mk_size]
      simp [convert, run_underlying hs, run_underlying hd, run_underlying hT, hrun]
    · have := VRel.slc (m := m.give T h.next ⟨w.heap.size, 0, 1, cells.size, (s.map fun b => AV.int .u8 b.toNat).length⟩) ⟨T, h.next, 0, 0⟩ s.length _ cap h3 hcap (by simp) rfl (by simp [hcs]) (by simp; omega)
      by_cases hc0 : 0 < cap
      · simpa [Loc.addr] using this hc0
      · have : cap = 0 := by omega
        have hs0 : s.length = 0 := by omega
        rw [this, hs0]
        exact .slc0 _ _ _ h3 (by simp [hs0])

theorem mkMap_sound (H : HRel P m h w) {T : Nat} {K : AV → AH → Prop} (hw : K (.map T h.next) (h.pushMap T [])) :
    Did P m K ((do pure (Next.value (← Instr.makeMap T none)) : Sem Next).run P w) := by
  have H1 : HRel P m h { w with heap := w.heap.push (.map #[] 0) } := H.alloc _
  have hfree : m.imm w.heap.size = none := by
    cases hi : m.imm w.heap.size with
    | none => rfl
    | some o => exact absurd (H.imm_lt hi) (Nat.lt_irrefl _)
  obtain ⟨h1, h2⟩ := H1.newMap (t := T) (r := w.heap.size) (es := []) ⟨⟨#[], 0, by simp, rfl, by simp, by simp, ⟨by simp, by simp⟩⟩, hfree⟩ (fun t' i' g => absurd (H.mlt _ _ _ g) (Nat.lt_irrefl _)) (by simp)
  refine ⟨.value (.map (some w.heap.size)), _, _, _, _, _, ?_, .inl rfl, h1, h2, .map _ _ _ (by simp [Emb.giveMap]), hw⟩
  simp [Instr.makeMap]

/-- A live map's block is nobody else's. -/
theorem MapAt.nobody (H : HRel P m h w) {t i r : Nat} {es : List (AV × AV)} (he : h.map t i = some es) (hl : m.mloc t i = some r) (ha : MapAt m w es r) (hn : h.noItr t i) : Nobody m (h.setMap t i none) r := by
  obtain ⟨ces, clock, h1, _⟩ := ha.ents
  refine ⟨fun t' i' es' L' e g p hb => ?_, fun t' i' es' r' e g hb => ?_, fun i' it r' e g hb => ?_, fun i' it e p hs hm => ?_, ha.free⟩
  · obtain ⟨L'', g1, g2⟩ := H.live t' i' es' e
    rw [g] at g1; cases g1
    obtain ⟨c, fr, g3, _⟩ := g2.cells p
    rw [hb, h1] at g3; cases g3
  · simp only [AH.setMap] at e
    split at e
    · cases e
    · rename_i hne
      subst hb
      exact hne (H.mapart t' i' t i r' g hl)
  · obtain ⟨r'', g1, g2⟩ := H.itrs i' it e
    rw [g] at g1; cases g1
    rcases g2.obj with ⟨_, _, _, g3⟩ | ⟨_, _, _, _, _, _, _, g3, _⟩ <;> (rw [hb, h1] at g3; cases g3)
  · obtain ⟨r'', g1, g2⟩ := H.itrs i' it e
    obtain ⟨a, b⟩ := H.mapart p.1 p.2 t i r hm hl
    exact hn i' it e (by rw [hs]; exact congrArg some (Prod.ext a b))

end Gls
