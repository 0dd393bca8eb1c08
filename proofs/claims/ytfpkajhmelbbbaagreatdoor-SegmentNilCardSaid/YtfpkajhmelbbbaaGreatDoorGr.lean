/- Appends, copies, new slices: what the view says holds of the model's. No condition. -/
import Derived.Test.YtfpkajhmelbbbaaGreatDoorGq
import Derived.IntWalk
set_option linter.unusedVariables false
set_option linter.unusedSimpArgs false
namespace Gls
open Go
variable {P : Program} {m : Emb} {h : AH} {w : World}

theorem setRange_nil (l : List AV) (i : Nat) : setRange l i [] = l := by unfold setRange; simp
theorem setArr_self (h : AH) {t i : Nat} {es : List AV} (e : h.arr t i = some es) : h.setArr t i (some es) = h := by
  unfold AH.setArr
  cases h
  simp only [AH.mk.injEq, and_true, true_and]
  funext t' i'
  split
  · rename_i hc; obtain ⟨rfl, rfl⟩ := hc; exact e.symm
  · rfl

theorem flatC_flat {xs : List AV} (h : ∀ e ∈ xs, flat e) : ∀ u ∈ flatC xs, u.noAgg = true := by
  intro u hu
  unfold flatC at hu
  obtain ⟨e, he, hue⟩ := List.mem_flatMap.1 hu
  exact h e he u hue

theorem drawn_rel {d : Nat} {v : AV} {c : Value} (h : VRel m v c) : VRel m v c := h

/-- A new row behind a draw, holding given elements. -/
theorem grown_sound (H : HRel P m h w) {T sz : Nat} (hz : sizeOf? P T = some sz) (h0 : 0 < sz) {es : List AV} (hsz : ∀ e : AV, e ∈ es → e.cells.length = sz) (hfl : ∀ e ∈ es, flat e) {vs : List Value} (hv : VRels m (flatC es) vs) {rest : Array Value} {cap : Nat}
    (hcap : es.length ≤ cap) (hrest : rest.size = (cap - es.length) * sz) (hpos : 0 < cap) (n : Nat) :
    ∃ m', m.le m' ∧ HRel P m' (h.push T es) { w with heap := w.heap.push (.cells (vs.toArray ++ rest) T (0, 0)), drawn := n } ∧ VRel m' (.slc ⟨T, h.next, 0, 0⟩ es.length) (.slice (some ⟨w.heap.size, 0, none⟩) es.length cap) := by
  have hl := flatC_length hsz
  have hvl := hv.1
  have hsize : (vs.toArray ++ rest).size = cap * sz := by
    have : es.length * sz + (cap - es.length) * sz = cap * sz := by rw [← Nat.add_mul]; congr 1; omega
    simp [hrest]; omega
  obtain ⟨h1, h2, h3⟩ := H.newRow hz h0 (es := es) (cs := vs.toArray ++ rest) (fr := (0, 0)) (noFrost0 _) hsz (fun e u he hu => hfl e he u hu) (by rw [hsize]; exact Nat.mul_le_mul_right _ hcap)
    (fun k u hk => by
      obtain ⟨c, g1, g2⟩ := hv.get hk
      have hlt := (List.getElem?_eq_some_iff.1 g1).1
      exact ⟨c, by rw [Array.getElem?_append_left (by simpa using hlt)]; simpa using g1, g2⟩) n
  refine ⟨_, h1, h2, ?_⟩
  have := VRel.slc (m := m.give T h.next ⟨w.heap.size, 0, sz, (vs.toArray ++ rest).size, es.length⟩) ⟨T, h.next, 0, 0⟩ es.length _ cap h3 hcap h0 rfl (by simp only [hsize, Nat.zero_add]; exact Nat.le_refl _) (by simp; exact hcap) hpos
  simpa [Loc.addr] using this

/-- An object of nothing, of which there is no block. -/
theorem phantom_sound (H : HRel P m h w) {T sz : Nat} (hz : sizeOf? P T = some sz) (h0 : 0 < sz) (a : Option Addr) :
    ∃ m', m.le m' ∧ HRel P m' (h.push T []) w ∧ VRel m' (.slc ⟨T, h.next, 0, 0⟩ 0) (.slice a 0 0) := by
  obtain ⟨h1, h2⟩ := H.newArr (t := T) (es := []) (L := ⟨0, 0, sz, 0, 0⟩) ⟨fun h => by simp at h, by simp, by simp, by simp, h0, rfl, fun h => by simp at h⟩ ⟨hz, by simp⟩ (fun h => by simp at h)
  exact ⟨_, h1, h2, .slc0 _ ⟨0, 0, sz, 0, 0⟩ _ (by simp [Emb.give]) (by simp)⟩

theorem append_sound (H : HRel P m h w) {ats : Array TypeId} {ty t T u bytes : Nat} {du : TypeDesc} {z : Value} {K : AV → AH → Prop} (h0 : ats[0]? = some t) (h1 : ats[1]? = some u) (ht : P.underlying t = some (.slice T)) (hu : P.underlying u = some du) (hnu : srcDesc du = true)
    (hzv : zeroOf P T = some z) (hz : sizeOf? P T = some z.cells.size) (hb : bytesOf? P T = some bytes) (hb0 : bytes ≠ 0) {s x : AV} {cs cx : Value} (hs : VRel m s cs) (hx : VRel m x cx)
    (hw : aAppend T z.cells.size bytes s x h K) : Did P m K ((do pure (Next.value (← Builtin.append_ ats ty #[cs, cx])) : Sem Next).run P w) := by
  unfold aAppend at hw
  have hw0 := aElems_det hw
  clear hw
  obtain ⟨xs, ⟨⟨hpos, hxs⟩, hw⟩, hel⟩ := hw0
  have hxsz : ∀ e ∈ xs, e.cells.length = z.cells.size := fun e he => (hxs e he).2
  have hxfl : ∀ e ∈ xs, flat e := fun e he => (hxs e he).1
  obtain ⟨hlen, hsrc⟩ := src_run H hz hx hel
  obtain ⟨vs, hf, hvs⟩ := hsrc xs.length (Nat.le_refl _)
  rw [List.take_length] at hvs
  have Hd : HRel P m h w.drew := H.drawn _
  obtain ⟨_, hsrcd⟩ := src_run Hd hz hx hel
  obtain ⟨vsd, hfd, hvsd⟩ := hsrcd xs.length (Nat.le_refl _)
  rw [List.take_length] at hvsd
  have val : ∀ {c : Value} {w' : World}, (Builtin.append_ ats ty #[cs, cx]).run P w = .ok c w' → (do pure (Next.value (← Builtin.append_ ats ty #[cs, cx])) : Sem Next).run P w = .ok (.value c) w' := fun e => by simp [e]
  split at hw
  · -- onto nothing
    obtain ⟨hby, hK⟩ := hw
    cases hs with
    | nils a =>
      by_cases hk : xs.length = 0
      · obtain ⟨m', g1, g2, g3⟩ := phantom_sound H hz hpos a
        have hx0 : xs = [] := List.length_eq_zero_iff.1 hk
        subst hx0
        have hrun := append_in (ty := ty) h0 h1 ht hu hnu hz (base := a) (n := 0) (c := 0) hlen hf (by simp)
        have hv0 : vs = [] := by have := hvs.1; simpa [flatC] using this.symm
        subst hv0
        refine ⟨.value (.slice a 0 0), m', _, _, _, w, val ?_, .inl rfl, g1, g2, g3, hK⟩
        rw [hrun]; cases a <;> simp [storeCells]
      · have ho : (Builtin.firstCells z.cells.size 0 (.slice a 0 0)).run P w.drew = .ok ([] : List Value).toArray w.drew := by
          cases a <;> simp [Builtin.firstCells, loadCells, loadCellsFrom]
        obtain ⟨cap, hcap, rest, hrest, hrun⟩ := append_re (ty := ty) h0 h1 ht hu hnu hzv hz hb hb0 (base := a) (n := 0) (c := 0) hlen hfd ho (by omega) (by simpa using hby)
        obtain ⟨m', g1, g2, g3⟩ := grown_sound H hz hpos hxsz hxfl hvsd (rest := rest) (cap := cap) (by omega) (by simpa using hrest) (by omega) (w.drawn + 1)
        refine ⟨_, m', _, _, _, _, val hrun, .inl rfl, g1, ?_, by simpa using g3, hK⟩
        simpa using g2
  · rename_i r n
    obtain ⟨hT, hoff, es, he, hle, hw⟩ := hw
    obtain ⟨L, hl, ha⟩ := H.live _ _ _ he
    have hLsz : L.sz = z.cells.size := by have := (H.sized _ _ _ hl).1; rw [hT, hz] at this; exact (Option.some.inj this).symm
    have hs' := hs
    -- the elements that the slice holds
    have hels : aElems T z.cells.size (.slc r n) h (· = (es.drop r.idx).take n) := ⟨hT, hoff, es, he, hle, rfl⟩
    have holdn : ((es.drop r.idx).take n).length = n := by simp; omega
    have holdsz : ∀ e : AV, e ∈ (es.drop r.idx).take n ++ xs → e.cells.length = z.cells.size := fun e hm => by
      rcases List.mem_append.1 hm with hm | hm
      · rw [← hLsz]; exact ha.size e (List.mem_of_mem_drop (List.mem_of_mem_take hm))
      · exact hxsz e hm
    have holdfl : ∀ e ∈ (es.drop r.idx).take n ++ xs, flat e := fun e hm => by
      rcases List.mem_append.1 hm with hm | hm
      · intro u hu; exact ha.flat e u (List.mem_of_mem_drop (List.mem_of_mem_take hm)) hu
      · exact hxfl e hm
    have hnew : ((es.drop r.idx).take n ++ xs).length = n + xs.length := by rw [List.length_append, holdn]
    -- a new row
    have re : ∀ {a : Option Addr} {c : Nat}, cs = .slice a n c → c < n + xs.length → (n + xs.length) * bytes ≤ 2 ^ 47 → K (.slc ⟨T, h.next, 0, 0⟩ (n + xs.length)) ((h.setArr r.ty r.id none).push T ((es.drop r.idx).take n ++ xs)) →
        Did P m K ((do pure (Next.value (← Builtin.append_ ats ty #[cs, cx])) : Sem Next).run P w) := by
      intro a c hcs hc hby hK
      obtain ⟨_, hos⟩ := src_run Hd hz hs hels
      obtain ⟨olds, ho, hov⟩ := hos n (by rw [holdn]; exact Nat.le_refl _)
      rw [List.take_of_length_le (by rw [holdn]; exact Nat.le_refl _)] at hov
      subst hcs
      obtain ⟨cap, hcap, rest, hrest, hrun⟩ := append_re (ty := ty) h0 h1 ht hu hnu hzv hz hb hb0 hlen hfd ho hc hby
      have hrel : VRels m (flatC ((es.drop r.idx).take n ++ xs)) (olds ++ vsd) := by rw [flatC_append]; exact hov.append hvsd
      obtain ⟨m', g1, g2, g3⟩ := grown_sound (H.dropArr r.ty r.id) hz hpos holdsz holdfl hrel (rest := rest) (cap := cap) (by rw [hnew]; exact hcap) (by rw [hnew]; exact hrest) (by omega) (w.drawn + 1)
      rw [hnew] at g3
      exact ⟨_, m', _, _, _, _, val hrun, .inl rfl, g1, g2, g3, hK⟩
    cases hs with
    | slc0 _ L' a e1 e2 =>
      rw [hl] at e1; cases e1
      have hcnt := ha.cnt
      have hend : ¬ (r.idx + 0 + xs.length ≤ es.length ∧ r.idx + 0 < es.length) := by omega
      rw [if_neg hend] at hw
      obtain ⟨hby, hK⟩ := hw
      by_cases hk : xs.length = 0
      · obtain ⟨m', g1, g2, g3⟩ := phantom_sound (H.dropArr r.ty r.id) hz hpos a
        have hx0 : xs = [] := List.length_eq_zero_iff.1 hk
        subst hx0
        have hrun := append_in (ty := ty) h0 h1 ht hu hnu hz (base := a) (n := 0) (c := 0) hlen hf (by simp)
        have hv0 : vs = [] := by have := hvs.1; simpa [flatC] using this.symm
        subst hv0
        refine ⟨.value (.slice a 0 0), m', _, _, _, w, val ?_, .inl rfl, g1, g2, g3, by simp at hK; exact hK⟩
        rw [hrun]; cases a <;> simp [storeCells]
      · exact re rfl (by omega) hby hK
    | slc _ _ L' c e1 e2 e3 e4 e5 e6 e7 =>
      rw [hl] at e1; cases e1
      have hcnt := ha.cnt
      have hnum : 0 < L.num := by
        have : 0 < (r.idx + c) * L.sz := Nat.mul_pos (by omega) e3
        omega
      have haddr : (L.addr r).add (n * z.cells.size) = ⟨L.blk, L.base + (r.idx + n) * L.sz, none⟩ := by
        simp only [Loc.addr, addr_add, Addr.mk.injEq, true_and, and_true, hoff]
        rw [← hLsz, Nat.add_mul]; omega
      have hfx : (flatC xs).length = xs.length * L.sz := by rw [hLsz]; exact flatC_length hxsz
      have hfe := flatC_length ha.size
      split at hw
      · rename_i hin
        have hrun := append_in (ty := ty) h0 h1 ht hu hnu hz (base := some (L.addr r)) (n := n) (c := c) hlen hf (by omega)
        simp only [haddr] at hrun
        by_cases hk : xs.length = 0
        · have hx0 : xs = [] := List.length_eq_zero_iff.1 hk
          subst hx0
          have hv0 : vs = [] := by have := hvs.1; simpa [flatC] using this.symm
          subst hv0
          rw [setRange_nil, setArr_self h he] at hw
          refine ⟨_, m, _, h, _, w, val ?_, .inl rfl, .refl m, H, hs', by simpa using hw⟩
          rw [hrun]; simp [storeCells]
        · have hmul : (r.idx + n + xs.length) * L.sz ≤ es.length * L.sz := Nat.mul_le_mul_right _ hin.1
          rw [Nat.add_mul] at hmul
          obtain ⟨c', fr, g1, g2, g3⟩ := ha.poke (P := P) (es' := setRange es (r.idx + n) xs) (p := (r.idx + n) * L.sz) hvs (setRange_length _ _ _ hin.1)
            (fun e hm => by
              rcases setRange_mem hm with hm | hm
              · exact ha.size e hm
              · rw [hLsz]; exact hxsz e hm)
            (fun e u hm hu => by
              rcases setRange_mem hm with hm | hm
              · exact ha.flat e u hm hu
              · exact hxfl e hm u hu)
            (flatC_setRange ha.size (fun e he => by rw [hLsz]; exact hxsz e he) hin.1) (by omega) (flatC_flat hxfl) (by rw [hfx]; exact Nat.mul_pos (by omega) e3)
          have H2 := H.pokeArr he hl ha hnum g3
          refine ⟨.value (.slice (some (L.addr r)) (n + xs.length) c), m, _, _, _, _, val ?_, .inl rfl, .refl m, H2, .slc _ _ L c hl (by omega) e3 e4 e5 e6 e7, hw⟩
          rw [hrun, g2]; rfl
      · rename_i hout
        obtain ⟨hby, hK⟩ := hw
        by_cases hc : n + xs.length ≤ c
        · -- in place, into what was spare
          have hrun := append_in (ty := ty) h0 h1 ht hu hnu hz (base := some (L.addr r)) (n := n) (c := c) hlen hf hc
          simp only [haddr] at hrun
          obtain ⟨cc, fr, b1, b2, b3, b4⟩ := ha.cells hnum
          have hroom : L.base + (r.idx + n) * L.sz + (flatC xs).length ≤ cc.size := by
            have : (r.idx + n + xs.length) * L.sz ≤ (r.idx + c) * L.sz := Nat.mul_le_mul_right _ (by omega)
            rw [Nat.add_mul] at this
            omega
          have hvl := hvs.1
          have hst := run_storeCells (P := P) (vs := vs) (o := L.base + (r.idx + n) * L.sz) (i := 0) b1 (by rw [b2]; exact b3) (by omega) (fun v hv => by
            obtain ⟨i, hi, rfl⟩ := List.getElem_of_mem hv
            have e1 : (flatC xs)[i]? = some ((flatC xs)[i]'(by omega)) := by simp
            exact oneCell_of (hvs.2 i _ _ e1 (by simp [hi])) (flatC_flat hxfl _ (List.getElem_mem _)))
          simp only [Nat.add_zero] at hst
          let w' := putBlk w L.blk (.cells (putAt cc (L.base + (r.idx + n) * L.sz) vs) r.ty fr)
          have hnob := ha.nobody H he hl hnum
          have H1 : HRel P m (h.setArr r.ty r.id none) w' := (H.dropArr r.ty r.id).poke hnob rfl rfl rfl putBlk_size fun b hb => putBlk_ne hb
          let L2 : Loc := ⟨L.blk, L.base + r.idx * L.sz, L.sz, L.num, n + xs.length⟩
          have hfo : flatC ((es.drop r.idx).take n) = ((flatC es).drop (r.idx * L.sz)).take (n * L.sz) := by
            rw [flatC_take (sz := L.sz) (fun e hm => ha.size e (List.mem_of_mem_drop hm)) n (by simp; omega), flatC_drop ha.size _ (by omega)]
          have hfol : (flatC ((es.drop r.idx).take n)).length = n * L.sz := by
            rw [flatC_length (sz := L.sz) (fun e hm => ha.size e (List.mem_of_mem_drop (List.mem_of_mem_take hm))), holdn]
          have ha2 : LiveAt m w' T ((es.drop r.idx).take n ++ xs) L2 := by
            refine ⟨fun _ => ⟨putAt cc (L.base + (r.idx + n) * L.sz) vs, fr, ?_, by rw [putAt_size]; exact b2, b3, ?_⟩, ?_, fun e hm => by show _ = L.sz; rw [hLsz]; exact holdsz e hm, fun e u hm hu => holdfl e hm u hu, e3, hnew, fun _ => ha.free hnum⟩
            · rw [← hT]; exact putBlk_get (Array.getElem?_eq_some_iff.1 b1).1
            · intro k u hk
              show ∃ v, (putAt cc (L.base + (r.idx + n) * L.sz) vs)[L.base + r.idx * L.sz + k]? = some v ∧ VRel m u v
              rw [putAt_get _ _ _ (by omega)]
              rw [flatC_append] at hk
              have hadd : (r.idx + n) * L.sz = r.idx * L.sz + n * L.sz := Nat.add_mul _ _ _
              by_cases hkn : k < n * L.sz
              · rw [if_neg (by omega)]
                rw [List.getElem?_append_left (by omega), hfo, List.getElem?_take, if_pos hkn, List.getElem?_drop] at hk
                obtain ⟨v, p1, p2⟩ := b4 _ u hk
                exact ⟨v, by rw [Nat.add_assoc]; exact p1, p2⟩
              · rw [List.getElem?_append_right (by omega), hfol] at hk
                have hlt := (List.getElem?_eq_some_iff.1 hk).1
                obtain ⟨v, p1, p2⟩ := hvs.get hk
                rw [if_pos (by omega)]
                exact ⟨v, by rw [show L.base + r.idx * L.sz + k - (L.base + (r.idx + n) * L.sz) = k - n * L.sz by omega]; exact p1, p2⟩
            · show L.base + r.idx * L.sz + ((es.drop r.idx).take n ++ xs).length * L.sz ≤ L.num
              rw [hnew]
              have : (r.idx + (n + xs.length)) * L.sz ≤ (r.idx + c) * L.sz := Nat.mul_le_mul_right _ (by omega)
              rw [Nat.add_mul] at this
              omega
          obtain ⟨q1, q2⟩ := H1.newArr ha2 ⟨by show _ = some L.sz; rw [hz, hLsz], by show (L.base + r.idx * L.sz) % L.sz = 0; rw [Nat.add_mul_mod_self_right]; exact (H.sized _ _ _ hl).2⟩ fun _ t' i' es' L' e g p hb => hnob.arr t' i' es' L' e g p hb
          refine ⟨.value (.slice (some (L.addr r)) (n + xs.length) c), _, _, _, _, w', val ?_, .inl rfl, q1, q2, ?_, hK⟩
          · rw [hrun, hst]; rfl
          · have hnx : (h.setArr r.ty r.id none).next = h.next := rfl
            have hloc : (m.give T (h.setArr r.ty r.id none).next L2).loc T h.next = some L2 := by simp [Emb.give, hnx]
            have := VRel.slc (m := m.give T (h.setArr r.ty r.id none).next L2) ⟨T, h.next, 0, 0⟩ (n + xs.length) L2 c hloc hc e3 rfl (by
              show L.base + r.idx * L.sz + (0 + c) * L.sz ≤ L.num
              rw [Nat.zero_add]; rw [Nat.add_mul] at e5; omega) (by show n + xs.length ≤ 0 + c; omega) e7
            have hadr : L2.addr ⟨T, h.next, 0, 0⟩ = L.addr r := by simp [Loc.addr, L2, hoff]
            rw [hadr] at this
            exact this
        · exact re rfl (by omega) hby hK
  · exact hw.elim

theorem copy_sound (H : HRel P m h w) {ats : Array TypeId} {ty t T sz : Nat} {K : AV → AH → Prop} (h0 : ats[0]? = some t) (ht : P.underlying t = some (.slice T)) (hz : sizeOf? P T = some sz) {d s : AV} {cd cs : Value} (hd : VRel m d cd) (hs : VRel m s cs)
    (hw : aCopy T sz d s h K) : Did P m K ((do pure (Next.value (← Builtin.copy_ ats ty #[cd, cs])) : Sem Next).run P w) := by
  unfold aCopy at hw
  have hw0 := aElems_det hw
  clear hw
  obtain ⟨xs, ⟨hxs, hw⟩, hel⟩ := hw0
  obtain ⟨hlen, hsrc⟩ := src_run H hz hs hel
  split at hw
  · cases hd with
    | nils a =>
      obtain ⟨vs, hf, hvs⟩ := hsrc 0 (Nat.zero_le _)
      have hv0 : vs = [] := by have := hvs.1; simpa [flatC] using this.symm
      subst hv0
      refine ⟨.value (.int .i64 0), m, _, h, _, w, ?_, .inl rfl, .refl m, H, .int _ _, hw⟩
      cases a <;> simp [Builtin.copy_, h0, run_underlying ht, hlen, run_sizeOf hz, Nat.min_def, hf, storeCells, goInt]
  · rename_i r n
    obtain ⟨hT, hoff, es, he, hle, hK⟩ := hw
    obtain ⟨L, hl, ha⟩ := H.live _ _ _ he
    have hLsz : L.sz = sz := by have := (H.sized _ _ _ hl).1; rw [hT, hz] at this; exact (Option.some.inj this).symm
    have hmin : Nat.min xs.length n = min xs.length n := rfl
    obtain ⟨vs, hf, hvs⟩ := hsrc (min xs.length n) (Nat.min_le_left _ _)
    have htk : xs.take (min xs.length n) = xs.take n := by
      by_cases hx : xs.length ≤ n
      · rw [Nat.min_eq_left hx, List.take_length, List.take_of_length_le hx]
      · rw [Nat.min_eq_right (by omega)]
    rw [htk] at hvs
    have hxsz : ∀ e ∈ xs.take n, e.cells.length = L.sz := fun e hm => by rw [hLsz]; exact (hxs e (List.mem_of_mem_take hm)).2
    have hxfl : ∀ e ∈ xs.take n, flat e := fun e hm => (hxs e (List.mem_of_mem_take hm)).1
    have hfx := flatC_length hxsz
    have hlx : (xs.take n).length = min xs.length n := by rw [List.length_take, Nat.min_comm]
    by_cases hk : (xs.take n).length = 0
    · have hx0 : xs.take n = [] := List.length_eq_zero_iff.1 hk
      rw [hx0, setRange_nil, setArr_self h he] at hK
      have hv0 : vs = [] := by have := hvs.1; rw [hx0] at this; simpa [flatC] using this.symm
      subst hv0
      have hm0 : min xs.length n = 0 := by omega
      have hrun : ∀ {a : Option Addr} {c : Nat}, (Builtin.copy_ ats ty #[.slice a n c, cs]).run P w = .ok (.int .i64 (min xs.length n : Nat)) w := by
        intro a c
        have hf' := hf
        cases a <;> simp [Builtin.copy_, h0, run_underlying ht, hlen, run_sizeOf hz, hmin, hf', storeCells, goInt]
      have hsh : ∃ a c, cd = .slice a n c := by cases hd <;> exact ⟨_, _, rfl⟩
      obtain ⟨a, c, rfl⟩ := hsh
      exact ⟨.value (.int .i64 ((min xs.length n : Nat) : Int)), m, _, h, _, w, by simp only [Sem.run_bind, hrun, Result.andThen_ok, Sem.run_pure], .inl rfl, .refl m, H, .int _ _, by simpa using hK⟩
    · cases hd with
      | slc0 _ L' a e1 e2 => simp at hk
      | slc _ _ L' c e1 e2 e3 e4 e5 e6 e7 =>
        rw [hl] at e1; cases e1
        have hnum : 0 < L.num := by
          have : 0 < (r.idx + c) * L.sz := Nat.mul_pos (by omega) e3
          omega
        have hfe := flatC_length ha.size
        have hin : r.idx + (xs.take n).length ≤ es.length := by omega
        have hmul : (r.idx + (xs.take n).length) * L.sz ≤ es.length * L.sz := Nat.mul_le_mul_right _ hin
        rw [Nat.add_mul] at hmul
        obtain ⟨c', fr, g1, g2, g3⟩ := ha.poke (P := P) (es' := setRange es r.idx (xs.take n)) (p := r.idx * L.sz) hvs (setRange_length _ _ _ hin)
          (fun e hm => by
            rcases setRange_mem hm with hm | hm
            · exact ha.size e hm
            · exact hxsz e hm)
          (fun e u hm hu => by
            rcases setRange_mem hm with hm | hm
            · exact ha.flat e u hm hu
            · exact hxfl e hm u hu)
          (flatC_setRange ha.size hxsz hin) (by omega) (flatC_flat hxfl) (by rw [hfx]; exact Nat.mul_pos (by omega) e3)
        have H2 := H.pokeArr he hl ha hnum g3
        have hadr : L.addr r = ⟨L.blk, L.base + r.idx * L.sz, none⟩ := by simp [Loc.addr, hoff]
        refine ⟨.value (.int .i64 (min xs.length n : Nat)), m, _, _, _, _, ?_, .inl rfl, .refl m, H2, .int _ _, by simpa using hK⟩
        simp only [Builtin.copy_, h0, List.getElem?_toArray, List.getElem?_cons_zero, List.getElem?_cons_succ, Sem.run_bind, run_underlying ht, Result.andThen_ok, hlen, run_sizeOf hz, hmin, hf, hadr]
        rw [g2]
        simp [goInt]
  · exact hw.elim

theorem replicate_flat {c : Nat} {z : AV} (k : Nat) (u : AV) (hk : (flatC (List.replicate c z))[k]? = some u) : 0 < z.cells.length ∧ z.cells[k % z.cells.length]? = some u ∧ k < c * z.cells.length := by
  have hsz : ∀ e ∈ List.replicate c z, e.cells.length = z.cells.length := fun e he => by rw [List.eq_of_mem_replicate he]
  have hl := flatC_length hsz
  rw [List.length_replicate] at hl
  have hlt := (List.getElem?_eq_some_iff.1 hk).1
  rw [hl] at hlt
  have hpos : 0 < z.cells.length := by
    rcases Nat.eq_zero_or_pos z.cells.length with h | h
    · rw [h] at hlt; omega
    · exact h
  refine ⟨hpos, ?_, hlt⟩
  have hi : (List.replicate c z)[k / z.cells.length]? = some z := by
    rw [List.getElem?_replicate, if_pos]
    exact (Nat.div_lt_iff_lt_mul hpos).2 hlt
  have := flatC_get hsz hi (Nat.mod_lt k hpos)
  rw [← this, Nat.mul_comm, Nat.div_add_mod]; exact hk

theorem makeSlice_sound (H : HRel P m h w) {t T bytes : Nat} {z : Value} {K : AV → AH → Prop} (ht : P.underlying t = some (.slice T)) (hzv : zeroOf P T = some z) (hz : sizeOf? P T = some z.cells.size) (hb : bytesOf? P T = some bytes) {l c : AV} {cl cc : Value} (hl : VRel m l cl) (hc : VRel m c cc)
    (hw : aMakeSlice T z.cells.size bytes (absC z) l c h K) : Did P m K ((do pure (Next.value (← Instr.makeSlice t cl cc)) : Sem Next).run P w) := by
  unfold aMakeSlice at hw
  split at hw
  · rename_i kl a kc b
    obtain ⟨⟨hpos, hzl, hzf⟩, ⟨h1, h2, h3, h4⟩, hK⟩ := hw
    obtain rfl := hl.int_inv
    obtain rfl := hc.int_inv
    have hi : ∃ i, P.info? T = some i ∧ i.bytes = bytes := by
      unfold bytesOf? at hb
      cases hi : P.info? T with
      | none => simp [hi] at hb
      | some i => simp [hi] at hb; exact ⟨i, rfl, hb⟩
    obtain ⟨i, hi, hib⟩ := hi
    have wrapid : ∀ x : Int, 0 ≤ x → x ≤ 9223372036854775807 → IntKind.i64.wrap x = x := by
      intro x hx0 hx1
      exact IntWalk.i64_in x ⟨by omega, hx1⟩
    obtain ⟨cap, rfl⟩ := Int.eq_ofNat_of_zero_le (show 0 ≤ b by omega)
    obtain ⟨len, rfl⟩ := Int.eq_ofNat_of_zero_le h1
    simp only [Int.toNat_natCast] at hK
    have hlc : len ≤ cap := by omega
    let cells : Array Value := (Array.range (cap * z.cells.size)).map fun j => z.cells[j % z.cells.size]!
    have hcr := cells_of_flat (absC_rel m z) hzf
    have hsz : ∀ e : AV, e ∈ List.replicate cap (absC z) → e.cells.length = z.cells.size := fun e he => by rw [List.eq_of_mem_replicate he]; exact hzl
    obtain ⟨g1, g2, g3⟩ := H.newRow hz hpos (es := List.replicate cap (absC z)) (cs := cells) (fr := (0, 0)) (noFrost0 _) hsz (fun e u he hu => by rw [List.eq_of_mem_replicate he] at hu; exact hzf u hu) (by simp [cells])
      (fun k u hk => by
        obtain ⟨p1, p2, p3⟩ := replicate_flat k u hk
        rw [hzl] at p2 p3
        obtain ⟨v, q1, q2⟩ := hcr.get p2
        refine ⟨v, ?_, q2⟩
        simp only [Array.getElem?_toList] at q1
        have : (cells)[k]? = some (z.cells[k % z.cells.size]!) := by simp [cells, p3]
        rw [this]
        have hlt := (Array.getElem?_eq_some_iff.1 q1).1
        rw [getElem!_pos z.cells _ hlt]
        rw [Array.getElem?_eq_getElem hlt] at q1; exact q1) w.drawn
    refine ⟨.value (.slice (some ⟨w.heap.size, 0, none⟩) len cap), _, _, _, _, { w with heap := w.heap.push (.cells cells T (0, 0)) }, ?_, .inl rfl, g1, g2, ?_, hK⟩
    · have hb1 : ¬ ((2 : Int) ^ 48 < (bytes : Int) * (cap : Int)) := by omega
      have hb2 : ¬ ((cap : Int) < 0) := by omega
      have hwl := wrapid len (by omega) (by omega)
      have hwc := wrapid cap (by omega) (by omega)
      have hmain : (Instr.makeSlice t (.int kl len) (.int kc cap)).run P w = .ok (.slice (some ⟨w.heap.size, 0, none⟩) len cap) { w with heap := w.heap.push (.cells cells T (0, 0)) } := by
        simp only [Instr.makeSlice, Sem.run_bind, run_underlying ht, Result.andThen_ok, asInt, asIntOf, Sem.run_pure, run_typeInfo hi, hwl, hwc, hib]
        rw [if_neg (by simp; omega)]
        simp only [Sem.run_bind, run_askRoom, Result.andThen_ok, run_sizeOf hz, Int.toNat_natCast]
        by_cases h0 : cap * z.cells.size = 0
        · have hc0 : cap = 0 := by
            rcases Nat.mul_eq_zero.1 h0 with h | h
            · exact h
            · omega
          rw [if_pos h0]
          simp [Go.newRow, cells, hc0, show Array.range 0 = #[] from rfl]
        · rw [if_neg h0]
          simp [run_zeroValue hzv, Go.newRow, cells]
      simp [hmain]
    · have := VRel.slc (m := m.give T h.next ⟨w.heap.size, 0, z.cells.size, cells.size, (List.replicate cap (absC z)).length⟩) ⟨T, h.next, 0, 0⟩ len _ cap g3 hlc hpos rfl (by simp [cells]) (by simp)
      by_cases hc0 : 0 < cap
      · simpa [Loc.addr] using this hc0
      · have : cap = 0 := by omega
        have hl0 : len = 0 := by omega
        subst this; subst hl0
        exact .slc0 _ _ _ g3 (by simp)
  · exact hw.elim

theorem chunks_spec (sz : Nat) (hsz : 0 < sz) : ∀ (n : Nat) (l : List AV), l.length = n * sz → (∀ u ∈ l, u.noAgg = true) →
    (chunks sz n l).length = n ∧ (∀ e ∈ chunks sz n l, e.cells.length = sz ∧ flat e) ∧ flatC (chunks sz n l) = l
  | 0, l, h, _ => by
    have : l = [] := List.length_eq_zero_iff.1 (by simpa using h)
    subst this; simp [chunks, flatC]
  | n + 1, l, h, hf => by
    rw [Nat.succ_mul] at h
    obtain ⟨a, b, c⟩ := chunks_spec sz hsz n (l.drop sz) (by simp; omega) (fun u hu => hf u (List.mem_of_mem_drop hu))
    have hhead : (chunk1 sz l).cells = l.take sz := by
      unfold chunk1
      split
      · rename_i h1
        subst h1
        cases l with
        | nil => simp at h
        | cons x l =>
          simp only [List.take_succ_cons, List.take_zero]
          have := hf x (by simp)
          cases x <;> first | rfl | simp [AV.noAgg] at this
      · rfl
    refine ⟨by simp [chunks, a], fun e he => ?_, ?_⟩
    · simp only [chunks, List.mem_cons] at he
      rcases he with rfl | he
      · refine ⟨by rw [hhead]; simp; omega, fun u hu => ?_⟩
        rw [hhead] at hu
        exact hf u (List.mem_of_mem_take hu)
      · exact b e he
    · simp only [chunks]
      rw [flatC_cons, hhead, c, List.take_append_drop]

theorem mkSlice_sound (H : HRel P m h w) {t T len : Nat} {z : Value} {ps : Array (Nat × Operand)} {qs : List (Nat × Nat × Opd)} {σ : Opd → AV} {ρ : Operand → Value} {K : AV → AH → Prop} (hρ : ∀ x, VRel m (σ (cOpd x)) (ρ x))
    (ht : P.underlying t = some (.slice T)) (hzv : zeroOf P T = some z) (hz : sizeOf? P T = some z.cells.size) (hn : ¬ len * z.cells.size > 2 ^ 24) (hq : cParts P (fun i => some (i * z.cells.size, z.cells.size)) ps.toList = some qs)
    (hw : (0 < z.cells.size ∧ ((List.range (len * z.cells.size)).map fun i => absS (z.cells[i % z.cells.size]!)).length = len * z.cells.size ∧ ∀ q ∈ qs, (σ q.2.2).known = true) ∧
      ∃ cs, fillA ((List.range (len * z.cells.size)).map fun i => absS (z.cells[i % z.cells.size]!)) (qs.map fun (o, s, x) => (o, s, σ x)) = some cs ∧ (∀ u ∈ cs, u.noAgg = true) ∧
      K (.slc ⟨T, h.next, 0, 0⟩ len) (h.push T (chunks z.cells.size len cs))) :
    Did P m K ((do pure (Next.value (← Instr.buildSlice t len (ps.map fun (i, x) => (i, ρ x)))) : Sem Next).run P w) := by
  obtain ⟨⟨hpos, _, hk⟩, cs, hf, hfl, hK⟩ := hw
  let zs : Array Value := (Array.range (len * z.cells.size)).map fun i => z.cells[i % z.cells.size]!
  have hzs : VRels m ((List.range (len * z.cells.size)).map fun i => absS (z.cells[i % z.cells.size]!)) zs.toList := by
    have e : zs.toList = (List.range (len * z.cells.size)).map fun i => z.cells[i % z.cells.size]! := by simp [zs]
    rw [e]; exact VRels.of_map _ fun i => absS_rel m _
  obtain ⟨cr, g1, g2⟩ := fill_sound (σ := σ) hρ hq hzs (fun q hq => notAny_of_known (hk q hq)) hf
  have hlen : cs.length = len * z.cells.size := by
    have key : ∀ (qs : List (Nat × Nat × AV)) (a b : List AV), fillA a qs = some b → b.length = a.length := by
      intro qs
      induction qs with
      | nil => intro a b h; simp [fillA] at h; rw [h]
      | cons q qs ih =>
        intro a b h
        obtain ⟨o, s, v⟩ := q
        simp only [fillA] at h
        split at h
        · rename_i hc
          rw [ih _ _ h]; simp; omega
        · cases h
    rw [key _ _ _ hf]; simp
  obtain ⟨c1, c2, c3⟩ := chunks_spec z.cells.size hpos len cs hlen hfl
  have hcrl : cr.size = len * z.cells.size := by have := g2.1; simp at this; omega
  obtain ⟨p1, p2, p3⟩ := H.newRow hz hpos (es := chunks z.cells.size len cs) (cs := cr) (fr := (0, 0)) (noFrost0 _) (fun e he => (c2 e he).1) (fun e u he hu => (c2 e he).2 u hu) (by rw [c1, hcrl]; exact Nat.le_refl _)
    (fun k u hk => by
      rw [c3] at hk
      obtain ⟨v, q1, q2⟩ := g2.get hk
      exact ⟨v, by simpa using q1, q2⟩) w.drawn
  refine ⟨.value (.slice (some ⟨w.heap.size, 0, none⟩) len len), _, _, _, _, { w with heap := w.heap.push (.cells cr T (0, 0)) }, ?_, .inl rfl, p1, p2, ?_, hK⟩
  · have hmain : (Instr.buildSlice t len (ps.map fun (i, x) => (i, ρ x))).run P w = .ok (.slice (some ⟨w.heap.size, 0, none⟩) len len) { w with heap := w.heap.push (.cells cr T (0, 0)) } := by
      simp only [Instr.buildSlice, Sem.run_bind, run_underlying ht, Result.andThen_ok, run_sizeOf hz]
      rw [if_neg hn]
      have e2 : (ps.map fun (i, x) => (i, ρ x)).toList = ps.toList.map fun (i, x) => (i, ρ x) := by simp
      by_cases h0 : len * z.cells.size = 0
      · have hl0 : len = 0 := by
          rcases Nat.mul_eq_zero.1 h0 with h | h
          · exact h
          · omega
        subst hl0
        have hz0 : zs = #[] := by simp [zs]
        rw [hz0] at g1
        rw [if_pos h0]
        simp only [Sem.run_bind, Sem.run_pure, Result.andThen_ok, Nat.zero_mul, e2]
        simp [g1, Go.newRow, show Array.range 0 = #[] from rfl]
      · rw [if_neg h0]
        simp only [Sem.run_bind, Sem.run_pure, Result.andThen_ok, run_zeroValue hzv, e2]
        rw [show (Array.map (fun x => z.cells[x % z.cells.size]!) (Array.range (len * z.cells.size))) = zs from rfl, g1]
        simp [Go.newRow]
    simp [hmain]
  · have := VRel.slc (m := m.give T h.next ⟨w.heap.size, 0, z.cells.size, cr.size, (chunks z.cells.size len cs).length⟩) ⟨T, h.next, 0, 0⟩ len _ len p3 (Nat.le_refl _) hpos rfl (by simp [hcrl]) (by simp [c1])
    by_cases hl0 : 0 < len
    · simpa [Loc.addr] using this hl0
    · have : len = 0 := by omega
      subst this
      exact .slc0 _ _ _ p3 (by simp [c1])

end Gls
