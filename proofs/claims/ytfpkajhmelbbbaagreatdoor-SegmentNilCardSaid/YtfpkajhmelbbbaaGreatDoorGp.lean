/- Iterators, appends, copies, new slices: what the view says holds of the model's. No condition. -/
import Derived.Test.YtfpkajhmelbbbaaGreatDoorGo
set_option linter.unusedVariables false
set_option linter.unusedSimpArgs false
namespace Gls
open Go
variable {P : Program} {m : Emb} {h : AH} {w : World}

theorem filter_erase (l : List MapEntry) (hd : ∀ (i j : Nat) (c d : MapEntry), l[i]? = some c → l[j]? = some d → c.born = d.born → i = j) (j : Nat) (e : MapEntry) (he : l[j]? = some e) :
    l.filter (fun x => decide (x.born ≠ e.born)) = l.eraseIdx j := by
  induction l generalizing j with
  | nil => simp at he
  | cons x l ih =>
    cases j with
    | zero =>
      simp at he; subst he
      rw [List.filter_cons_of_neg (by simp)]
      simp only [List.eraseIdx_zero, List.tail_cons]
      rw [List.filter_eq_self]
      intro y hy
      obtain ⟨i, hi⟩ := List.getElem?_of_mem hy
      simp only [ne_eq, decide_not, Bool.not_eq_true', decide_eq_false_iff_not]
      intro hb
      have := hd (i + 1) 0 y x (by simpa using hi) rfl hb
      omega
    | succ j =>
      have he' : l[j]? = some e := by simpa using he
      rw [List.eraseIdx_cons_succ, List.filter_cons_of_pos, ih (fun i i' c d a b hb => by have := hd (i + 1) (i' + 1) c d (by simpa using a) (by simpa using b) hb; omega) j he']
      simp only [ne_eq, decide_not, Bool.not_eq_true', decide_eq_false_iff_not]
      intro hb
      have := hd 0 (j + 1) x e rfl (by simpa using he') hb
      omega

theorem sub_dist {l : List MapEntry} (p : MapEntry → Bool) (hd : ∀ (i j : Nat) (c d : MapEntry), l[i]? = some c → l[j]? = some d → c.born = d.born → i = j) :
    ∀ (i j : Nat) (c d : MapEntry), (l.filter p)[i]? = some c → (l.filter p)[j]? = some d → c.born = d.born → i = j := by
  induction l with
  | nil => simp
  | cons x l ih =>
    have hd' : ∀ (i j : Nat) (c d : MapEntry), l[i]? = some c → l[j]? = some d → c.born = d.born → i = j := fun i j c d a b hb => by
      have := hd (i + 1) (j + 1) c d (by simpa using a) (by simpa using b) hb; omega
    intro i j c d hi hj hb
    by_cases hp : p x = true
    · rw [List.filter_cons_of_pos hp] at hi hj
      have mem : ∀ {k : Nat} {y : MapEntry}, (l.filter p)[k]? = some y → y.born = x.born → False := fun {k y} hk hy => by
        obtain ⟨k', hk'⟩ := List.getElem?_of_mem (List.mem_filter.1 (List.mem_of_getElem? hk)).1
        have := hd (k' + 1) 0 y x (by simpa using hk') rfl hy
        omega
      cases i <;> cases j
      · rfl
      · simp at hi hj; subst hi; exact (mem hj hb.symm).elim
      · simp at hi hj; subst hj; exact (mem hi hb).elim
      · simp at hi hj; rw [ih hd' _ _ c d hi hj hb]
    · rw [List.filter_cons_of_neg hp] at hi hj
      exact ih hd' i j c d hi hj hb

theorem next_sound (H : HRel P m h w) {ty : TypeId} {it : AV} {c : Value} {K : AV → AH → Prop} (hi : VRel m it c) (hw : aNext it h K) :
    Did P m K ((do pure (Next.value (← Instr.next c false ty)) : Sem Next).run P w) := by
  unfold aNext at hw
  split at hw
  · rename_i i
    obtain ⟨a, h1, hK0, hK⟩ := hw
    obtain ⟨r, rfl, hl⟩ := hi.itr_inv
    obtain ⟨r', g1, ha⟩ := H.itrs _ _ h1
    rw [hl] at g1; cases g1
    rcases ha.obj with ⟨q1, q2, q3, q4⟩ | ⟨b, ces, clock, seen, q1, q2, q3, q4, q5, q6, q7, q8⟩
    · refine ⟨.value (.tuple #[.bool false]), m, _, h, .tuple #[.bool false], w, ?_, .inl rfl, .refl m, H, VRel.tup_of (VRels.cons (.bool _) VRels.nil), hK0 q2⟩
      simp [Instr.next, run_getObj (P := P) q4 (by intro a b c; simp)]
    · have hg1 := run_getObj (P := P) q4 (by intro a b c; simp)
      have hg2 := run_getObj (P := P) q3 (by intro a b c; simp)
      have hs := fun o' => run_setObj (P := P) (o' := o') q4 (by intro a b c; simp)
      have hlt := (Array.getElem?_eq_some_iff.1 q4).1
      let left := ces.filter fun e => !seen.contains e.born
      have hq6 : a.rest.length = left.size := q6
      have hold : (left.filter fun e => decide (e.born < clock)) = left := by
        rw [Array.filter_eq_self]
        intro x hx
        obtain ⟨k, hk⟩ := Array.getElem?_of_mem (Array.mem_filter.1 hx).1
        simpa using q5.past k x hk
      have hnew : (left.filter fun e => decide (e.born ≥ clock)) = #[] := by
        rw [Array.filter_eq_empty_iff]
        intro x hx
        obtain ⟨k, hk⟩ := Array.getElem?_of_mem (Array.mem_filter.1 hx).1
        have := q5.past k x hk
        simp; omega
      have hguard : (!seen.isEmpty && !ces.isEmpty && ces.all fun x => decide (x.born ≥ clock)) = false := by
        cases hce : ces.isEmpty with
        | true => simp
        | false =>
          have hpos : 0 < ces.size := by
            rcases Nat.eq_zero_or_pos ces.size with h0 | h0
            · simp [Array.isEmpty, h0] at hce
            · exact h0
          have : ces.all (fun x => decide (x.born ≥ clock)) = false := by
            rw [Array.all_eq_false]
            refine ⟨0, hpos, ?_⟩
            have := q5.past 0 ces[0] (by simp [hpos])
            simp; omega
          rw [this]; simp
      have hrun : (Instr.next (.pointer (some ⟨r, 0, none⟩)) false ty).run P w =
          ((choose (.mapNext ((if left.isEmpty then #[none] else #[]) ++ left.map some).size)).run P w).andThen fun k w' =>
            ((match ((if left.isEmpty then #[none] else #[]) ++ left.map some)[k]? with
              | some (some e) => do setObj r (.mapIter (some b) clock (seen.push e.born) clock); pure (.tuple #[.bool true, e.key, e.val])
              | some none => pure (.tuple #[.bool false])
              | none => stuck "Next: no such candidate" : Sem Value)).run P w' := by
        simp only [Instr.next, Sem.run_bind, hg1, Result.andThen_ok, hg2]
        rw [if_neg (by rw [hguard]; simp)]
        simp only [Sem.run_bind]
        rw [show (Array.filter (fun x => decide (x.born < clock)) (Array.filter (fun e => !seen.contains e.born) ces)) = left from hold,
          show (Array.filter (fun x => decide (x.born ≥ clock)) (Array.filter (fun e => !seen.contains e.born) ces)) = #[] from hnew]
        simp only [Array.append_empty]
        rfl
      by_cases hempty : a.rest = []
      · have hl0 : left = #[] := by
          have : left.size = 0 := by rw [← hq6, hempty]; rfl
          exact Array.eq_empty_of_size_eq_zero this
        refine ⟨.value (.tuple #[.bool false]), m, _, h, .tuple #[.bool false], w, ?_, .inl rfl, .refl m, H, VRel.tup_of (VRels.cons (.bool _) VRels.nil), hK0 hempty⟩
        simp only [Sem.run_bind, hrun, hl0]
        simp [Question.forced]
      · have hpos : 0 < left.size := by rw [← hq6]; exact List.length_pos_iff.2 hempty
        have hne : left.isEmpty = false := by
          cases hb : left.isEmpty with
          | false => rfl
          | true => simp [Array.isEmpty] at hb; rw [hb] at hpos; simp at hpos
        have hcand : ((if left.isEmpty then #[none] else #[]) ++ left.map some) = left.map some := by simp [hne]
        rw [hcand] at hrun
        have hch : ∃ k d, (choose (.mapNext (left.map some).size)).run P w = .ok k { w with drawn := d } ∧ k < left.size := by
          simp only [run_choose]
          by_cases hf : (Question.mapNext (left.map some).size).forced = true
          · rw [if_pos hf]; exact ⟨0, w.drawn, rfl, hpos⟩
          · rw [if_neg hf]
            refine ⟨_, w.drawn + 1, rfl, ?_⟩
            simp only [Question.cut, Array.size_map]
            exact Nat.mod_lt _ hpos
        obtain ⟨k, d, hc1, hc2⟩ := hch
        have hke : left[k]? = some left[k] := by simp [hc2]
        let e := left[k]
        obtain ⟨u, hu⟩ : ∃ u, a.rest[k]? = some u := ⟨a.rest[k]'(by omega), by simp [show k < a.rest.length by omega]⟩
        obtain ⟨v1, v2⟩ := q7 k u e hu hke
        have H0 : HRel P m h { w with drawn := d } := H.drawn d
        have hdist : ∀ (i j : Nat) (c d : MapEntry), ces.toList[i]? = some c → ces.toList[j]? = some d → c.born = d.born → i = j := fun i j c d x y hb => q5.one i j c d (by simpa using x) (by simpa using y) hb
        have hleft' : (ces.filter fun x => !(seen.push e.born).contains x.born).toList = left.toList.eraseIdx k := by
          have e1 : (ces.filter fun x => !(seen.push e.born).contains x.born).toList = (left.toList.filter fun x => decide (x.born ≠ e.born)) := by
            simp only [left, Array.toList_filter, List.filter_filter]
            congr 1
            funext x
            simp only [Array.contains_push, Bool.not_or, ne_eq, decide_not]
            rw [Bool.and_comm]
            congr 1
          rw [e1]
          refine filter_erase _ ?_ k e (by rw [Array.getElem?_toList]; exact hke)
          have := sub_dist (l := ces.toList) (fun e => !seen.contains e.born) hdist
          simpa [left, Array.toList_filter] using this
        have hit : ItrAt m (putBlk { w with drawn := d } r (.mapIter (some b) clock (seen.push e.born) clock)) ⟨a.src, a.rest.eraseIdx k, some u⟩ r := by
          have hbr : b ≠ r := by rintro rfl; rw [q3] at q4; cases q4
          refine ⟨.inr ⟨b, ces, clock, seen.push e.born, q1, q2, by rw [putBlk_ne hbr]; exact q3, putBlk_get hlt, q5, ?_, ?_, ?_⟩, ha.free⟩
          · have : (ces.filter fun x => !(seen.push e.born).contains x.born).size = (left.toList.eraseIdx k).length := by rw [← hleft', Array.length_toList]
            rw [this, List.length_eraseIdx, List.length_eraseIdx, Array.length_toList, hq6]
          · intro i u' c' x y
            have y' : (left.toList.eraseIdx k)[i]? = some c' := by rw [← hleft', Array.getElem?_toList]; exact y
            rw [List.getElem?_eraseIdx] at x y'
            split at x
            · rename_i hi; rw [if_pos hi] at y'; exact q7 _ u' c' x (by rw [← Array.getElem?_toList]; exact y')
            · rename_i hi; rw [if_neg hi] at y'; exact q7 _ u' c' x (by rw [← Array.getElem?_toList]; exact y')
          · intro u' hu'
            cases hu'
            refine ⟨e.born, e, by simp, ?_, v1, v2⟩
            obtain ⟨k', hk'⟩ := Array.getElem?_of_mem (Array.mem_filter.1 (Array.mem_of_getElem? hke)).1
            rw [← Array.find?_toList]
            have hmem : e ∈ ces.toList := by
              have := Array.mem_of_getElem? hk'; simpa using this
            cases hf : ces.toList.find? (fun x => x.born == e.born) with
            | none =>
              have := List.find?_eq_none.1 hf e hmem
              simp at this
            | some y =>
              have hy := List.find?_some hf
              obtain ⟨iy, hiy⟩ := List.getElem?_of_mem (List.mem_of_find?_eq_some hf)
              have := hdist iy k' y e hiy (by simpa using hk') (by simpa using hy)
              subst this
              have h1' : ces.toList[iy]? = some e := by rw [Array.getElem?_toList]; exact hk'
              rw [hiy] at h1'; exact h1'
        have Hfin : HRel P m (h.setItr i (some ⟨a.src, a.rest.eraseIdx k, some u⟩)) (putBlk { w with drawn := d } r (.mapIter (some b) clock (seen.push e.born) clock)) := by
          have hnob : Nobody m (h.setItr i none) r := by
            refine ⟨fun t' i' es' L' e g p hb => ?_, fun t' i' es' r' e g hb => ?_, fun i' it' r' e g hb => ?_, fun i' it' e p hs hm => ?_, ha.free⟩
            · obtain ⟨L'', g1, g2⟩ := H.live t' i' es' e
              rw [g] at g1; cases g1
              obtain ⟨c, fr, g3, _⟩ := g2.cells p
              rw [hb, q4] at g3; cases g3
            · obtain ⟨r'', g1, g2⟩ := H.maps t' i' es' e
              rw [g] at g1; cases g1
              obtain ⟨c, k, g3, _⟩ := g2.ents
              rw [hb, q4] at g3; cases g3
            · simp only [AH.setItr] at e
              split at e
              · cases e
              · rename_i hne
                subst hb
                exact hne (H.iapart i' it' i a r' e h1 g hl)
            · simp only [AH.setItr] at e
              split at e
              · cases e
              · obtain ⟨r'', g1, g2⟩ := H.itrs i' it' e
                rcases g2.obj with ⟨g3, _⟩ | ⟨b', c, k, s, g3, _, g4, _⟩
                · rw [g3] at hs; cases hs
                · have := g3 p hs
                  rw [hm] at this; cases this
                  rw [q4] at g4; cases g4
          have H2 : HRel P m (h.setItr i none) (putBlk { w with drawn := d } r (.mapIter (some b) clock (seen.push e.born) clock)) := (H0.dropItr i).poke hnob rfl rfl rfl putBlk_size fun b hb => putBlk_ne hb
          have := H2.putItr hl hit fun i' it' e g => by
            simp only [AH.setItr] at e
            split at e
            · cases e
            · exact H.iapart i' it' i a r e h1 g hl
          have e : (h.setItr i none).setItr i (some ⟨a.src, a.rest.eraseIdx k, some u⟩) = h.setItr i (some ⟨a.src, a.rest.eraseIdx k, some u⟩) := by
            unfold AH.setItr; simp only [AH.mk.injEq, and_true, true_and]
            funext i'; split <;> rfl
          rwa [e] at this
        refine ⟨.value (.tuple #[.bool true, e.key, e.val]), m, _, _, _, _, ?_, .inl rfl, .refl m, Hfin, VRel.tup_of (VRels.cons (.bool _) (VRels.cons v1 (VRels.cons v2 VRels.nil))), hK k u hu⟩
        have hs' := run_setObj (P := P) (w := { w with drawn := d }) (o' := .mapIter (some b) clock (seen.push e.born) clock) q4 (by intro a b c; simp)
        simp only [Sem.run_bind, hrun, hc1, Result.andThen_ok]
        rw [show (left.map some)[k]? = some (some e) by simp [hke, e, hc2]]
        simp only [Sem.run_bind, hs', Result.andThen_ok, Sem.run_pure]
  · exact hw.elim

end Gls
