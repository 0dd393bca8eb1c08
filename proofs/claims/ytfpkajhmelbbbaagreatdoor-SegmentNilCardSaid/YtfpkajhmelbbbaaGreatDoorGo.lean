/- Operations on maps that change memory: what the view says holds of the model's. No condition. -/
import Derived.Test.YtfpkajhmelbbbaaGreatDoorGn
set_option linter.unusedVariables false
set_option linter.unusedSimpArgs false
namespace Gls
open Go
variable {P : Program} {m : Emb} {h : AH} {w : World}

theorem run_setObj {r : Nat} {o o' : Obj} (hb : w.heap[r]? = some o) (ho : ∀ c t f, o ≠ .cells c t f) : (setObj r o').run P w = .ok () (putBlk w r o') := by
  cases o <;> first | (exact absurd rfl (ho _ _ _)) | simp [setObj, Sem.run, hb, putBlk]

theorem eq_of_eqCell {ck : CK} {x y : AV} {cx cy : Value} (he : eqCell ck x y = some true) (hx : VRel m x cx) (hy : VRel m y cy) : cx = cy ∧ Instr.sameBits 10000 cy cx = true := by
  rcases eqCell_inv he with ⟨_, j, a, b, rfl, rfl, h⟩ | ⟨_, a, b, rfl, rfl, h⟩ | ⟨_, a, b, rfl, rfl, h⟩
  · have : a = b := by simpa using h.symm
    subst this
    rw [hx.int_inv, hy.int_inv]; exact ⟨rfl, by simp [Instr.sameBits]⟩
  · have : a = b := by simpa using h.symm
    subst this
    rw [hx.str_inv, hy.str_inv]; exact ⟨rfl, by simp [Instr.sameBits, mk_beq]⟩
  · have : a = b := by simpa using h.symm
    subst this
    rw [hx.bool_inv, hy.bool_inv]; exact ⟨rfl, by simp [Instr.sameBits]⟩

theorem aPut_of {d : TypeDesc} {ck : CK} (hd : ckOf d = some ck) {x v : AV} {cx : Value} (hx : VRel m x cx) :
    ∀ {es : List (AV × AV)} {ces : List MapEntry} (i : Nat) {es' : List (AV × AV)}, EntsRel m es ces → aPut ck x v es = some es' →
      (Instr.findNow d cx ces i = some none ∧ es' = es ++ [(x, v)]) ∨
      ∃ j c, Instr.findNow d cx ces i = some (some (i + j, c.val)) ∧ ces[j]? = some c ∧ c.key = cx ∧ Instr.sameBits 10000 c.key cx = true ∧ es' = es.set j (x, v) := by
  intro es
  induction es with
  | nil =>
    intro ces i es' hr ha
    have : ces = [] := by cases ces with | nil => rfl | cons a b => simp [EntsRel] at hr
    subst this
    simp [aPut] at ha; subst ha
    exact .inl ⟨rfl, rfl⟩
  | cons e es ih =>
    intro ces i es' hr ha
    obtain ⟨c, cs, rfl, h1, h2, h3⟩ := hr.inv_cons
    unfold aPut at ha
    split at ha
    · rename_i he
      cases ha
      have := sameNow_of hd hx h1 he
      obtain ⟨e1, e2⟩ := eq_of_eqCell he hx h1
      exact .inr ⟨0, c, by simp [Instr.findNow, this], rfl, e1.symm, e2, rfl⟩
    · rename_i he
      have := sameNow_of hd hx h1 he
      cases hp : aPut ck x v es with
      | none => rw [hp] at ha; cases ha
      | some es'' =>
        rw [hp] at ha; cases ha
        rcases ih (i + 1) h3 hp with ⟨g1, g2⟩ | ⟨j, c', g1, g2, g3, g4, g5⟩
        · exact .inl ⟨by simp [Instr.findNow, this, g1], by simp [g2]⟩
        · exact .inr ⟨j + 1, c', by simp [Instr.findNow, this, g1]; omega, by simpa using g2, g3, g4, by simp [g5]⟩
    · cases ha

theorem aDrop_of {d : TypeDesc} {ck : CK} (hd : ckOf d = some ck) {x : AV} {cx : Value} (hx : VRel m x cx) :
    ∀ {es : List (AV × AV)} {ces : List MapEntry} (i : Nat) {es' : List (AV × AV)}, EntsRel m es ces → aDrop ck x es = some es' →
      (Instr.findNow d cx ces i = some none ∧ es' = es) ∨
      ∃ j c, Instr.findNow d cx ces i = some (some (i + j, c.val)) ∧ ces[j]? = some c ∧ es' = es.eraseIdx j := by
  intro es
  induction es with
  | nil =>
    intro ces i es' hr ha
    have : ces = [] := by cases ces with | nil => rfl | cons a b => simp [EntsRel] at hr
    subst this
    simp [aDrop] at ha; subst ha
    exact .inl ⟨rfl, rfl⟩
  | cons e es ih =>
    intro ces i es' hr ha
    obtain ⟨c, cs, rfl, h1, h2, h3⟩ := hr.inv_cons
    unfold aDrop at ha
    split at ha
    · rename_i he
      cases ha
      have := sameNow_of hd hx h1 he
      exact .inr ⟨0, c, by simp [Instr.findNow, this], rfl, rfl⟩
    · rename_i he
      have := sameNow_of hd hx h1 he
      cases hp : aDrop ck x es with
      | none => rw [hp] at ha; cases ha
      | some es'' =>
        rw [hp] at ha; cases ha
        rcases ih (i + 1) h3 hp with ⟨g1, g2⟩ | ⟨j, c', g1, g2, g5⟩
        · exact .inl ⟨by simp [Instr.findNow, this, g1], by simp [g2]⟩
        · exact .inr ⟨j + 1, c', by simp [Instr.findNow, this, g1]; omega, by simpa using g2, by simp [g5]⟩
    · cases ha

/-- A live map whose entries are turned. -/
theorem HRel.pokeMap (H : HRel P m h w) {t i r : Nat} {es es' : List (AV × AV)} (he : h.map t i = some es) (hl : m.mloc t i = some r) (ha : MapAt m w es r) (hn : h.noItr t i) {o : Obj}
    (ha' : MapAt m (putBlk w r o) es' r) : HRel P m (h.setMap t i (some es')) (putBlk w r o) := by
  have H2 : HRel P m (h.setMap t i none) (putBlk w r o) := (H.dropMap t i).poke (ha.nobody H he hl hn) rfl rfl rfl putBlk_size fun b hb => putBlk_ne hb
  have := H2.putMap hl ha'
  have e : (h.setMap t i none).setMap t i (some es') = h.setMap t i (some es') := by
    unfold AH.setMap; simp only [AH.mk.injEq, and_true, true_and]
    funext t' i'; split <;> rfl
  rwa [e] at this

theorem mapUpdate_sound (H : HRel P m h w) {t kt e : Nat} {d : TypeDesc} {ck : CK} {mp k v : AV} {cm cx cv : Value} {K : AV → AH → Prop} (ht : P.underlying t = some (.map kt e)) (hkt : P.underlying kt = some d) (hd : ckOf d = some ck)
    (hm : VRel m mp cm) (hk : VRel m k cx) (hv : VRel m v cv) (hw : aMapUpdate ck mp k v h fun h' => K .any h') : Did P m K ((do Instr.mapUpdate t cm cx cv; pure .skip : Sem Next).run P w) := by
  unfold aMapUpdate at hw
  split at hw
  · rename_i T i
    obtain ⟨hn, es, h1, es', h2, hK⟩ := hw
    obtain ⟨r, rfl, hl⟩ := hm.map_inv
    obtain ⟨r', g1, ha⟩ := H.maps _ _ _ h1
    rw [hl] at g1; cases g1
    obtain ⟨ces, clock, hb, g2, g3, g4, g5⟩ := ha.ents
    have hr : EntsRel m es ces.toList := ⟨by simpa using g2, fun i a b x y => ⟨g3 i a b x (by simpa using y), g4 i a b x (by simpa using y)⟩⟩
    have hlt := (Array.getElem?_eq_some_iff.1 hb).1
    have hg := run_getObj (P := P) hb (by intro a b c; simp)
    have hs := fun o' => run_setObj (P := P) (o' := o') hb (by intro a b c; simp)
    rcases aPut_of hd hk 0 hr h2 with ⟨q1, rfl⟩ | ⟨j, c, q1, q2, q3, q4, rfl⟩
    · have ha' : MapAt m (putBlk w r (.map (ces.push { key := cx, val := cv, born := clock }) (clock + 1))) (es ++ [(k, v)]) r := by
        refine ⟨⟨_, _, putBlk_get hlt, by simp [g2], ?_, ?_, ⟨?_, ?_⟩⟩, ha.free⟩
        · intro i e c x y
          rw [Array.getElem?_push] at y
          split at y
          · rename_i hi; rw [← g2] at hi; subst hi; simp at x; subst x; cases y; exact hk
          · rename_i hi
            have : i < es.length := by have := (List.getElem?_eq_some_iff.1 x).1; simp at this; omega
            rw [List.getElem?_append_left this] at x
            exact g3 i e c x y
        · intro i e c x y
          rw [Array.getElem?_push] at y
          split at y
          · rename_i hi; rw [← g2] at hi; subst hi; simp at x; subst x; cases y; exact hv
          · rename_i hi
            have : i < es.length := by have := (List.getElem?_eq_some_iff.1 x).1; simp at this; omega
            rw [List.getElem?_append_left this] at x
            exact g4 i e c x y
        · intro i j c d x y hcd
          rw [Array.getElem?_push] at x y
          split at x <;> split at y
          · rename_i a b; omega
          · cases x; have := g5.past _ _ y; simp at hcd; omega
          · cases y; have := g5.past _ _ x; simp at hcd; omega
          · exact g5.one i j c d x y hcd
        · intro i c x
          rw [Array.getElem?_push] at x
          split at x
          · cases x; simp
          · exact Nat.lt_succ_of_lt (g5.past i c x)
      refine ⟨.skip, m, .any, _, undef, _, ?_, .inr ⟨rfl, rfl⟩, .refl m, H.pokeMap h1 hl ha hn ha', .any _, hK⟩
      simp [Instr.mapUpdate, run_underlying ht, hg, checkKey_of hkt hd, Instr.findKey, run_underlying hkt, q1, hs]
    · simp only [Nat.zero_add] at q1
      have q2' : ces[j]? = some c := by simpa using q2
      have hjlt : j < ces.size := (Array.getElem?_eq_some_iff.1 q2').1
      have key : ∀ i, (ces.modify j fun e => { e with key := cx, val := cv })[i]? = (if i = j then some { c with key := cx, val := cv } else ces[i]?) := by
        intro i
        rw [Array.getElem?_modify]
        by_cases hi : j = i
        · subst hi; simp [q2']
        · rw [if_neg hi, if_neg (Ne.symm hi)]
      have ha' : MapAt m (putBlk w r (.map (ces.modify j fun e => { e with key := cx, val := cv }) clock)) (es.set j (k, v)) r := by
        refine ⟨⟨_, _, putBlk_get hlt, by simp [g2], ?_, ?_, ⟨?_, ?_⟩⟩, ha.free⟩
        · intro i e c' x y
          rw [key] at y
          split at y
          · rename_i hi; subst hi; cases y; rw [List.getElem?_set_self (by omega)] at x; cases x; exact hk
          · rename_i hi; rw [List.getElem?_set_ne (Ne.symm hi)] at x; exact g3 i e c' x y
        · intro i e c' x y
          rw [key] at y
          split at y
          · rename_i hi; subst hi; cases y; rw [List.getElem?_set_self (by omega)] at x; cases x; exact hv
          · rename_i hi; rw [List.getElem?_set_ne (Ne.symm hi)] at x; exact g4 i e c' x y
        · intro i i' c1 c2 x y hcd
          rw [key] at x y
          split at x <;> split at y
          · omega
          · rename_i a b; subst a; cases x; exact g5.one _ _ c c2 q2' y hcd
          · rename_i a b; subst b; cases y; exact g5.one _ _ c1 c x q2' hcd
          · exact g5.one i i' c1 c2 x y hcd
        · intro i c' x
          rw [key] at x
          split at x
          · cases x; exact g5.past j c q2'
          · exact g5.past i c' x
      refine ⟨.skip, m, .any, _, undef, _, ?_, .inr ⟨rfl, rfl⟩, .refl m, H.pokeMap h1 hl ha hn ha', .any _, hK⟩
      simp [Instr.mapUpdate, run_underlying ht, hg, checkKey_of hkt hd, Instr.findKey, run_underlying hkt, q1, q2', Instr.keyThatStays, q4, hs]
  · exact hw.elim

theorem delete_sound (H : HRel P m h w) {ats : Array TypeId} {ty t kt e : Nat} {d : TypeDesc} {ck : CK} {mp k : AV} {cm cx : Value} {K : AV → AH → Prop} (h0 : ats[0]? = some t) (ht : P.underlying t = some (.map kt e)) (hkt : P.underlying kt = some d) (hd : ckOf d = some ck)
    (hm : VRel m mp cm) (hk : VRel m k cx) (hw : aDelete ck mp k h fun h' => K .any h') : Did P m K ((do pure (Next.value (← Builtin.delete_ ats ty #[cm, cx])) : Sem Next).run P w) := by
  unfold aDelete at hw
  split at hw
  · obtain rfl := hm.nilm_inv
    refine ⟨.value (.tuple #[]), m, .any, h, .tuple #[], w, ?_, .inl rfl, .refl m, H, .any _, hw⟩
    simp [Builtin.delete_, h0, run_underlying ht, checkKey_of hkt hd]
  · rename_i T i
    obtain ⟨hn, es, h1, es', h2, hK⟩ := hw
    obtain ⟨r, rfl, hl⟩ := hm.map_inv
    obtain ⟨r', g1, ha⟩ := H.maps _ _ _ h1
    rw [hl] at g1; cases g1
    obtain ⟨ces, clock, hb, g2, g3, g4, g5⟩ := ha.ents
    have hr : EntsRel m es ces.toList := ⟨by simpa using g2, fun i a b x y => ⟨g3 i a b x (by simpa using y), g4 i a b x (by simpa using y)⟩⟩
    have hlt := (Array.getElem?_eq_some_iff.1 hb).1
    have hg := run_getObj (P := P) hb (by intro a b c; simp)
    have hs := fun o' => run_setObj (P := P) (o' := o') hb (by intro a b c; simp)
    rcases aDrop_of hd hk 0 hr h2 with ⟨q1, rfl⟩ | ⟨j, c, q1, q2, rfl⟩
    · have ha' : MapAt m (putBlk w r (.map ces clock)) es' r := by rw [putBlk_self hb]; exact ha
      refine ⟨.value (.tuple #[]), m, .any, _, .tuple #[], _, ?_, .inl rfl, .refl m, H.pokeMap h1 hl ha hn ha', .any _, hK⟩
      simp [Builtin.delete_, h0, run_underlying ht, hg, checkKey_of hkt hd, Instr.findKey, run_underlying hkt, q1, hs]
    · simp only [Nat.zero_add] at q1
      have hjlt : j < ces.size := by have := (List.getElem?_eq_some_iff.1 q2).1; simpa using this
      have key : ∀ i, (ces.eraseIdxIfInBounds j)[i]? = if i < j then ces[i]? else ces[i + 1]? := by
        intro i
        rw [Array.eraseIdxIfInBounds, dif_pos hjlt, Array.getElem?_eraseIdx]
      have key2 : ∀ i, (es.eraseIdx j)[i]? = if i < j then es[i]? else es[i + 1]? := fun i => List.getElem?_eraseIdx
      have ha' : MapAt m (putBlk w r (.map (ces.eraseIdxIfInBounds j) clock)) (es.eraseIdx j) r := by
        refine ⟨⟨_, _, putBlk_get hlt, ?_, ?_, ?_, ⟨?_, ?_⟩⟩, ha.free⟩
        · rw [Array.eraseIdxIfInBounds, dif_pos hjlt, List.length_eraseIdx, Array.size_eraseIdx, g2, if_pos hjlt]
        · intro i e c' x y
          rw [key] at y; rw [key2] at x
          split at x
          · rename_i hi; rw [if_pos hi] at y; exact g3 _ e c' x y
          · rename_i hi; rw [if_neg hi] at y; exact g3 _ e c' x y
        · intro i e c' x y
          rw [key] at y; rw [key2] at x
          split at x
          · rename_i hi; rw [if_pos hi] at y; exact g4 _ e c' x y
          · rename_i hi; rw [if_neg hi] at y; exact g4 _ e c' x y
        · intro i i' c1 c2 x y hcd
          rw [key] at x y
          split at x <;> split at y
          · exact g5.one i i' c1 c2 x y hcd
          · have := g5.one _ _ c1 c2 x y hcd; omega
          · have := g5.one _ _ c1 c2 x y hcd; omega
          · have := g5.one _ _ c1 c2 x y hcd; omega
        · intro i c' x
          rw [key] at x
          split at x
          · exact g5.past _ c' x
          · exact g5.past _ c' x
      refine ⟨.value (.tuple #[]), m, .any, _, .tuple #[], _, ?_, .inl rfl, .refl m, H.pokeMap h1 hl ha hn ha', .any _, hK⟩
      simp [Builtin.delete_, h0, run_underlying ht, hg, checkKey_of hkt hd, Instr.findKey, run_underlying hkt, q1, hs]
  · exact hw.elim

theorem range_sound (H : HRel P m h w) {t kt e : Nat} {mp : AV} {cm : Value} {K : AV → AH → Prop} (ht : P.underlying t = some (.map kt e)) (hm : VRel m mp cm) (hw : aRange mp h K) :
    Did P m K ((do pure (Next.value (← Instr.range t cm)) : Sem Next).run P w) := by
  unfold aRange at hw
  obtain ⟨es, hK, he⟩ := aEnts_det hw
  have hfree : m.imm w.heap.size = none := by
    cases hi : m.imm w.heap.size with
    | none => rfl
    | some o => exact absurd (H.imm_lt hi) (Nat.lt_irrefl _)
  have hsep : ∀ i' it', h.itr i' = some it' → m.iloc i' ≠ some w.heap.size := fun i' it' e g => by
    obtain ⟨r, g1, g2⟩ := H.itrs i' it' e
    rw [g] at g1; cases g1
    rcases g2.obj with ⟨_, _, _, g3⟩ | ⟨_, _, _, _, _, _, _, g3, _⟩ <;> exact absurd (Array.getElem?_eq_some_iff.1 g3).1 (Nat.lt_irrefl _)
  have hsrc : ∀ r, cm = .map (some r) → (∀ p, mapId mp = some p → m.mloc p.1 p.2 = some r) ∧ (mapId mp = none → m.imm r ≠ none) := by
    rintro r rfl
    unfold aEnts at he
    cases mp <;> simp only at he <;> try exact he.elim
    · cases hm
    · refine ⟨fun p hp => ?_, fun hp => by simp [mapId] at hp⟩
      simp [mapId] at hp; subst hp
      obtain ⟨r', e1, e2⟩ := hm.map_inv
      cases e1; exact e2
    · refine ⟨fun p hp => by simp [mapId] at hp, fun _ => ?_⟩
      obtain ⟨r', ces, clock, e1, e2, _⟩ := hm.imap_inv
      cases e1; rw [e2]; simp
  rcases ents_at H hm he with ⟨rfl, rfl⟩ | ⟨r, ces, clock, rfl, hb, hr, hbo⟩
  · have hsn : mapId mp = none := by
      cases mp <;> first | rfl | cases hm
    have H1 : HRel P m h { w with heap := w.heap.push (.mapIter none 0 #[] 0) } := H.alloc _
    obtain ⟨h1, h2⟩ := H1.newItr (it := ⟨mapId mp, [], none⟩) (r := w.heap.size) ⟨.inl ⟨hsn, rfl, rfl, by simp⟩, hfree⟩ hsep
    refine ⟨.value (.pointer (some ⟨w.heap.size, 0, none⟩)), _, _, _, _, _, ?_, .inl rfl, h1, h2, .itr _ _ (by simp [Emb.giveItr]), hK⟩
    simp [Instr.range, run_underlying ht]
  · have H1 : HRel P m h { w with heap := w.heap.push (.mapIter (some r) clock #[] clock) } := H.alloc _
    have hlt := (Array.getElem?_eq_some_iff.1 hb).1
    have hfil : (ces.filter fun e => !(#[] : Array Nat).contains e.born) = ces := by simp
    obtain ⟨h1, h2⟩ := H1.newItr (it := ⟨mapId mp, es, none⟩) (r := w.heap.size)
      ⟨.inr ⟨r, ces, clock, #[], (hsrc r rfl).1, (hsrc r rfl).2, by simp [Array.getElem?_push, Nat.ne_of_lt hlt, hb], by simp, hbo, by rw [hfil]; simpa using hr.1, fun i e c x y => by rw [hfil] at y; exact hr.2 i e c x (by simpa using y), fun e he => by cases he⟩, hfree⟩ hsep
    refine ⟨.value (.pointer (some ⟨w.heap.size, 0, none⟩)), _, _, _, _, _, ?_, .inl rfl, h1, h2, .itr _ _ (by simp [Emb.giveItr]), hK⟩
    simp [Instr.range, run_underlying ht, run_getObj (P := P) hb (by intro a b c; simp)]

end Gls
