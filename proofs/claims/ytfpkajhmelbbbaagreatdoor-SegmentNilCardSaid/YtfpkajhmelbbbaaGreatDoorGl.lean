/- Every operation that leaves memory alone: what the view says of its answer holds of the model's. No condition. -/
import Derived.Test.YtfpkajhmelbbbaaGreatDoorGk
set_option linter.unusedVariables false
set_option linter.unusedSimpArgs false
namespace Gls
open Go
variable {P : Program} {m : Emb} {h : AH} {w : World}

theorem VRels.of_map {α : Type} {f : α → AV} {g : α → Value} (l : List α) (h : ∀ x, VRel m (f x) (g x)) : VRels m (l.map f) (l.map g) := by
  induction l with
  | nil => exact VRels.nil
  | cons x l ih => exact VRels.cons (h x) ih

theorem notAny_of_known {v : AV} (h : v.known = true) : v ≠ .any := by rintro rfl; simp [AV.known] at h

theorem run_mapM_places {fs : Array Field} {pl : Array (Nat × Nat)} (h : fieldPlaces P fs = some pl) :
    (fs.mapM fun f => Prod.mk f.offset <$> Go.sizeOf f.type : Sem (Array (Nat × Nat))).run P w = .ok pl w := by
  unfold fieldPlaces at h
  rw [← Array.toArray_toList (xs := fs), List.mapM_toArray] at *
  generalize fs.toList = l at *
  have key : ∀ (l : List Field) (r : List (Nat × Nat)), (l.mapM fun f => (sizeOf? P f.type).map fun s => (f.offset, s)) = some r →
      (l.mapM fun f => Prod.mk f.offset <$> Go.sizeOf f.type : Sem (List (Nat × Nat))).run P w = .ok r w := by
    intro l
    induction l with
    | nil => intro r h; simp at h; subst h; rfl
    | cons f l ih =>
      intro r h
      simp only [List.mapM_cons, Option.bind_eq_bind] at h
      cases hs : sizeOf? P f.type with
      | none => simp [hs] at h
      | some s =>
        cases hl : (l.mapM fun f => (sizeOf? P f.type).map fun s => (f.offset, s)) with
        | none => simp [hs, hl] at h
        | some r' =>
          simp [hs, hl] at h
          subst h
          simp [List.mapM_cons, run_sizeOf hs, ih r' hl]
  cases hl : (l.mapM fun f => (sizeOf? P f.type).map fun s => (f.offset, s)) with
  | none => simp [hl] at h
  | some r =>
    simp [hl] at h
    subst h
    simp [key l r hl]

theorem quiet_sound (H : HRel P m h w) {o : Oper} {op : AOp} {σ : Env} {ρ : Operand → Value} {v : AV} (hc : cOp P o = some op) (hq : op.quiet = true) (hρ : ∀ x, VRel m (ev σ (cOpd x)) (ρ x))
    (ha : Ans (ev σ) h op v) : ∃ c, (execOp ρ o).run P w = .ok (.value c) w ∧ VRel m v c := by
  have val : ∀ {s : Sem Value} {c : Value}, s.run P w = .ok c w → (do pure (Next.value (← s)) : Sem Next).run P w = .ok (.value c) w := fun e => by simp [e]
  have fin : ∀ {s : Sem Value}, (∃ c, s.run P w = .ok c w ∧ VRel m v c) → ∃ c, (do pure (Next.value (← s)) : Sem Next).run P w = .ok (.value c) w ∧ VRel m v c := fun ⟨c, a, b⟩ => ⟨c, val a, b⟩
  have opt : ∀ {x : Option Operand} u, (x.map cOpd).map (ev σ) = some u → ∃ cv, x.map ρ = some cv ∧ VRel m u cv := by
    intro x u e
    cases x with
    | none => simp at e
    | some x => simp at e; subst e; exact ⟨_, rfl, hρ x⟩
  have opt' : ∀ {x : Option Operand}, (x.map cOpd).map (ev σ) = none → x.map ρ = none := by
    intro x e
    cases x with
    | none => rfl
    | some x => simp at e
  obtain ⟨dst, oop, ty, pos, after, guard⟩ := o
  cases oop with
  | move x => simp [cOp] at hc; subst hc; exact ⟨_, rfl, ha.1 ▸ hρ x⟩
  | assign x => simp [cOp] at hc; subst hc; exact ⟨_, rfl, ha.1 ▸ hρ x⟩
  | pick c a b =>
    simp [cOp] at hc; subst hc
    simp only [Ans, wpA] at ha
    split at ha
    · rename_i t ht
      have := hρ c; rw [ht] at this
      have hcb := this.bool_inv
      refine ⟨if t then ρ a else ρ b, by simp [execOp, hcb, asBool], ?_⟩
      rw [← ha.1]; cases t
      · exact hρ b
      · exact hρ a
    · exact ha.elim
  | build t ps =>
    simp only [cOp, Option.bind_eq_bind] at hc
    cases hz : zeroOf P t with
    | none => simp [hz] at hc
    | some z =>
      cases hu : P.underlying t with
      | none => simp [hz, hu] at hc
      | some d =>
        simp only [hz, hu, Option.bind_some] at hc
        have zc : VRels m (absC z).cells z.cells.toList := (absC_rel m z).cells_rel (by
          intro e cs hcs; subst hcs; simp [absC] at e)
        split at hc
        · rename_i fs
          cases hp : fieldPlaces P fs with
          | none => simp [hp] at hc
          | some pl =>
            cases hq' : cParts P (pl[·]?) ps.toList with
            | none => simp [hp, hq'] at hc
            | some qs =>
              simp [hp, hq'] at hc; subst hc
              simp only [Ans, wpA] at ha
              obtain ⟨hk, cs, hf, hv⟩ := ha
              obtain ⟨cr, g1, g2⟩ := fill_sound (σ := ev σ) hρ hq' zc (fun q hq => notAny_of_known (hk q hq)) hf
              refine ⟨.agg cr, ?_, hv.1 ▸ .agg_of (vs := cr.toList) g2⟩
              have e : (ps.map fun (i, x) => (i, ρ x)).toList = ps.toList.map fun (i, x) => (i, ρ x) := by simp
              simp [execOp, Instr.build, run_zeroValue hz, run_underlying hu]
              have := run_mapM_places (P := P) (w := w) hp
              rw [this]
              simp
              rw [g1]; rfl
        · rename_i n e
          cases hs : sizeOf? P e with
          | none => simp [hs] at hc
          | some s =>
            cases hq' : cParts P (fun i => some (i * s, s)) ps.toList with
            | none => simp [hs, hq'] at hc
            | some qs =>
              simp [hs, hq'] at hc; subst hc
              simp only [Ans, wpA] at ha
              obtain ⟨hk, cs, hf, hv⟩ := ha
              obtain ⟨cr, g1, g2⟩ := fill_sound (σ := ev σ) hρ hq' zc (fun q hq => notAny_of_known (hk q hq)) hf
              refine ⟨.agg cr, ?_, hv.1 ▸ .agg_of (vs := cr.toList) g2⟩
              simp [execOp, Instr.build, run_zeroValue hz, run_underlying hu, run_sizeOf hs]
              rw [g1]; rfl
        · cases hc
  | load t a =>
    simp only [cOp, Option.bind_eq_bind] at hc
    cases hg : aggOf P t with
    | none => simp [hg] at hc
    | some g =>
      simp [hg] at hc; subst hc
      have ha : aLoad g (ev σ (cOpd a)) h (· = v) := by simpa [Ans, wpA] using ha
      exact fin (aLoad_sound H (hρ a) ha hg)
  | nilCheck x =>
    simp [cOp] at hc; subst hc
    simp only [Ans, wpA] at ha
    have := hρ x
    split at ha
    · rename_i r hr
      rw [hr] at this
      obtain ⟨ad, e⟩ := this.ptr_inv
      refine ⟨_, by simp [execOp, e]; rfl, ?_⟩
      rw [← ha.1, ← e]; exact this
    · rename_i e' o hr
      rw [hr] at this
      obtain ⟨ad, e⟩ := this.iptr_inv
      refine ⟨_, by simp [execOp, e]; rfl, ?_⟩
      rw [← ha.1, ← e]; exact this
    · exact ha.elim
  | binOp bop xt x y yt =>
    simp only [cOp, Option.bind_eq_bind] at hc
    cases hu : P.underlying xt with
    | none => simp [hu] at hc
    | some d =>
      simp only [hu, Option.bind_some] at hc
      have bin : op = .bin bop (cOpd x) (cOpd y) → ∃ c, (execOp ρ ⟨dst, .binOp bop xt x y yt, ty, pos, after, guard⟩).run P w = .ok (.value c) w ∧ VRel m v c := by
        rintro rfl
        have hb : aBin bop (ev σ (cOpd x)) (ev σ (cOpd y)) (· = v) := by simpa [Ans, wpA] using ha
        obtain ⟨c, h1, h2⟩ := aBin_sound (P := P) (w := w) (xt := xt) (hρ x) (hρ y) hb
        refine ⟨c, val ?_, h2⟩
        have hne : (ρ x ≠ .nilIface) ∧ ∀ cs, ρ x ≠ .agg cs := by
          unfold aBin at hb
          have := hρ x
          split at hb
          · rename_i k a k' b e1 e2; rw [e1] at this; rw [this.int_inv]; simp
          · rename_i a b e1 e2; rw [e1] at this; rw [this.str_inv]; simp
          · exact hb.elim
        simp [eqGuard_none (.inl hne.1) hne.2, h1]
      split at hc
      · cases hc; exact bin rfl
      · cases hc; exact bin rfl
      · cases hk : eqKind P xt x y with
        | none => simp [hk] at hc
        | some k =>
          simp only [hk, Option.bind_some] at hc
          have eq : ∀ neg, ((bop = .eql ∧ neg = false) ∨ (bop = .neq ∧ neg = true)) → op = .eq neg k (cOpd x) (cOpd y) → ∃ c, (execOp ρ ⟨dst, .binOp bop xt x y yt, ty, pos, after, guard⟩).run P w = .ok (.value c) w ∧ VRel m v c := by
            rintro neg hop rfl
            simp only [Ans, wpA] at ha
            obtain ⟨b, h1, h2⟩ := ha
            exact ⟨_, val (aEq_sound hop hk (hρ x) (hρ y) h1), h2.1 ▸ .bool _⟩
          split at hc
          · cases hc; exact eq _ (.inl ⟨rfl, rfl⟩) rfl
          · cases hc; exact eq _ (.inr ⟨rfl, rfl⟩) rfl
          · cases hc
  | unOp uop xt x =>
    simp [cOp] at hc; subst hc
    have ha : aUn uop (ev σ (cOpd x)) (· = v) := by simpa [Ans, wpA] using ha
    exact fin (aUn_sound (hρ x) ha)
  | convert src dst' x =>
    simp only [cOp, Option.bind_eq_bind] at hc
    cases hs : P.underlying src with
    | none => simp [hs] at hc
    | some ds =>
      cases hd : P.underlying dst' with
      | none => simp [hs, hd] at hc
      | some dd =>
        simp only [hs, hd, Option.bind_some] at hc
        split at hc
        · cases hc
          simp only [Ans, wpA] at ha
          split at ha
          · rename_i k j n e
            have := hρ x; rw [e] at this
            have hx := this.int_inv
            obtain ⟨rfl, _⟩ := ha
            refine ⟨_, val ?_, .int _ _⟩
            rw [hx]; simp [convert, run_underlying hs, run_underlying hd, Conv.intToInt]
          · exact ha.elim
        · cases hc
          simp only [Ans, wpA] at ha
          split at ha
          · rename_i s e
            have := hρ x; rw [e] at this
            have hx := this.str_inv
            obtain ⟨rfl, _⟩ := ha
            refine ⟨_, val ?_, .str _⟩
            rw [hx]; simp [convert, run_underlying hs, run_underlying hd]
          · exact ha.elim
        · rename_i e
          cases he : P.underlying e with
          | none => simp [he] at hc
          | some de =>
            simp only [he, Option.bind_some] at hc
            split at hc
            · split at hc
              · cases hc; simp [AOp.quiet] at hq
              · cases hc
            · cases hc
        · rename_i e
          cases he : P.underlying e with
          | none => simp [he] at hc
          | some de =>
            simp only [he, Option.bind_some] at hc
            split at hc
            · split at hc
              · rename_i hz
                cases hc
                simp only [Ans, wpA] at ha
                obtain ⟨hsl, ha⟩ := ha
                obtain ⟨xs, ⟨s, h1, h2⟩, h3⟩ := aElems_det ha
                have hb := b2s_sound H hz (hρ x) hsl h3 h1
                have hsh : ∃ a l c, ρ x = .slice a l c := by
                  rcases elems_at H hz (hρ x) h3 with ⟨t, e1, _⟩ | ⟨a, c, e1, _⟩
                  · have := hρ x
                    rw [e1] at this
                    generalize ev σ (cOpd x) = vx at *
                    cases vx <;> simp [isSl] at hsl <;> cases this
                  · exact ⟨_, _, _, e1⟩
                obtain ⟨a, l, c, e1⟩ := hsh
                obtain ⟨rfl, _⟩ := h2
                refine ⟨_, val ?_, .str s⟩
                rw [e1] at hb ⊢
                rw [run_convert_bytes_string w src dst' e a l c hs he hd]; exact hb
              · cases hc
            · cases hc
        · cases hc
  | makeInterface t x =>
    simp only [cOp, Option.bind_eq_bind] at hc
    cases hu : P.underlying t with
    | none => simp [hu] at hc
    | some d =>
      simp only [hu, Option.bind_some] at hc
      split at hc
      · cases hc
      · cases hc
        have ha := ha.1
        refine ⟨.iface t (ρ x), val ?_, ha ▸ .iface _ _ _ (hρ x)⟩
        rename_i hne
        simp only [Instr.makeInterface, Sem.run_bind, run_underlying hu, Result.andThen_ok]
        cases d <;> first | rfl | exact absurd rfl (hne _)
  | makeFunc f a b =>
    simp [cOp] at hc; subst hc
    have ha := ha.1
    refine ⟨.func f (a.map ρ) (b.map ρ), rfl, ha ▸ ?_⟩
    have h1 : VRels m ((a.toList.map cOpd).map (ev σ)) (a.map ρ).toList := by rw [List.map_map]; rw [Array.toList_map]; exact VRels.of_map (f := ev σ ∘ cOpd) (g := ρ) a.toList hρ
    have h2 : VRels m ((b.toList.map cOpd).map (ev σ)) (b.map ρ).toList := by rw [List.map_map]; rw [Array.toList_map]; exact VRels.of_map (f := ev σ ∘ cOpd) (g := ρ) b.toList hρ
    exact .fn _ _ _ _ _ (by simp) (by simp) (fun i v c e e' => h1.2 i v c e (by simpa using e')) (fun i v c e e' => h2.2 i v c e (by simpa using e'))
  | slice t x lo hi mx =>
    cases mx with
    | some _ => simp [cOp] at hc
    | none =>
      simp only [cOp, Option.bind_eq_bind] at hc
      cases hu : P.underlying t with
      | none => simp [hu] at hc
      | some d =>
        simp only [hu, Option.bind_some] at hc
        split at hc
        · cases hc
          have ha : aSliceStr (ev σ (cOpd x)) ((lo.map cOpd).map (ev σ)) ((hi.map cOpd).map (ev σ)) (· = v) := by simpa [Ans, wpA] using ha
          exact fin (aSliceStr_sound hu (hρ x) opt opt' opt opt' ha)
        · rename_i e
          cases hz : sizeOf? P e with
          | none => simp [hz] at hc
          | some s =>
            simp only [hz, Option.bind_some] at hc
            cases hc
            have ha : aSliceSl e s (ev σ (cOpd x)) ((lo.map cOpd).map (ev σ)) ((hi.map cOpd).map (ev σ)) (· = v) := by simpa [Ans, wpA] using ha
            exact fin (aSliceSl_sound H hu hz (hρ x) opt opt' opt opt' ha)
        · cases hc
  | fieldAddr t x f =>
    simp only [cOp, Option.bind_eq_bind] at hc
    cases hu : P.underlying t with
    | none => simp [hu] at hc
    | some d =>
      simp only [hu, Option.bind_some] at hc
      split at hc
      · rename_i fs
        cases hf : fs[f]? with
        | none => simp [hf] at hc
        | some fd =>
          cases hz : sizeOf? P fd.type with
          | none => simp [hf, hz] at hc
          | some s =>
            simp only [hf, hz, Option.bind_some] at hc
            split at hc
            · cases hc
            · rename_i h0
              cases hc
              have ha : aFieldAddr fd.offset (ev σ (cOpd x)) (· = v) := by simpa [Ans, wpA] using ha
              exact fin (aFieldAddr_sound hu hf hz h0 (hρ x) ha)
      · cases hc
  | field t x f =>
    simp only [cOp, Option.bind_eq_bind] at hc
    cases hu : P.underlying t with
    | none => simp [hu] at hc
    | some d =>
      simp only [hu, Option.bind_some] at hc
      split at hc
      · rename_i fs
        cases hf : fs[f]? with
        | none => simp [hf] at hc
        | some fd =>
          cases hz : aggOf P fd.type with
          | none => simp [hf, hz] at hc
          | some s =>
            simp only [hf, hz, Option.bind_some] at hc
            cases hc
            simp only [Ans, wpA] at ha
            split at ha
            · rename_i cs e
              have := hρ x; rw [e] at this
              obtain ⟨a, hx, hr⟩ := this.agg_inv
              obtain ⟨c, h1, h2⟩ := part_sound (P := P) (w := w) hr hz (by simpa using ha)
              exact ⟨c, val (by simp [Instr.field, run_underlying hu, hf, hx, asAgg, h1]), h2⟩
            · exact ha.elim
      · cases hc
  | indexAddr t x i =>
    simp only [cOp, Option.bind_eq_bind] at hc
    cases hu : P.underlying t with
    | none => simp [hu] at hc
    | some d =>
      simp only [hu, Option.bind_some] at hc
      split at hc
      · rename_i e
        cases hz : sizeOf? P e with
        | none => simp [hz] at hc
        | some s =>
          simp only [hz, Option.bind_some] at hc; cases hc
          have ha : aIdxAddrS e s (ev σ (cOpd x)) (ev σ (cOpd i)) (· = v) := by simpa [Ans, wpA] using ha
          exact fin (aIdxAddrS_sound H hu hz (hρ x) (hρ i) ha)
      · rename_i n e
        cases hz : sizeOf? P e with
        | none => simp [hz] at hc
        | some s =>
          simp only [hz, Option.bind_some] at hc; cases hc
          have ha : aIdxAddrA n s (ev σ (cOpd x)) (ev σ (cOpd i)) (· = v) := by simpa [Ans, wpA] using ha
          exact fin (aIdxAddrA_sound hu hz (hρ x) (hρ i) ha)
      · cases hc
  | index t x i =>
    simp only [cOp, Option.bind_eq_bind] at hc
    cases hu : P.underlying t with
    | none => simp [hu] at hc
    | some d =>
      simp only [hu, Option.bind_some] at hc
      split at hc
      · cases hc
        have ha : aIdxStr (ev σ (cOpd x)) (ev σ (cOpd i)) (· = v) := by simpa [Ans, wpA] using ha
        exact fin (aIdxStr_sound hu (hρ x) (hρ i) ha)
      · rename_i n e
        cases hz : sizeOf? P e with
        | none => simp [hz] at hc
        | some s =>
          cases hg : aggOf P e with
          | none => simp [hz, hg] at hc
          | some g =>
            simp only [hz, hg, Option.bind_some] at hc; cases hc
            simp only [Ans, wpA] at ha
            split at ha
            · rename_i cs k j e1 e2
              have hx := hρ x; rw [e1] at hx
              have hi := hρ i; rw [e2] at hi
              obtain ⟨a, hx, hr⟩ := hx.agg_inv
              have hi := hi.int_inv
              obtain ⟨⟨h0, h1⟩, ha⟩ := ha
              obtain ⟨c, g1, g2⟩ := part_sound (P := P) (w := w) hr hg (by simpa using ha)
              exact ⟨c, val (by simp [Instr.index, hx, hi, asIntOf, run_underlying hu, h0, h1, run_sizeOf hz, g1]), g2⟩
            · exact ha.elim
      · cases hc
  | lookup t mp k ok =>
    simp only [cOp, Option.bind_eq_bind] at hc
    cases hu : P.underlying t with
    | none => simp [hu] at hc
    | some d =>
      simp only [hu, Option.bind_some] at hc
      split at hc
      · rename_i kt e
        cases hk : P.underlying kt with
        | none => simp [hk] at hc
        | some kd =>
          cases hck : ckOf kd with
          | none => simp [hk, hck] at hc
          | some ck =>
            cases hz : zeroOf P e with
            | none => simp [hk, hck, hz] at hc
            | some z =>
              simp only [hk, hck, hz, Option.bind_some] at hc; cases hc
              have ha : aLookup ck (absC z) ok (ev σ (cOpd mp)) (ev σ (cOpd k)) h (· = v) := by simpa [Ans, wpA] using ha
              exact fin (aLookup_sound H hu hk hck hz (hρ mp) (hρ k) ha)
      · cases hc
  | entry it =>
    simp [cOp] at hc; subst hc
    have ha : aEntry (ev σ (cOpd it)) h (· = v) := by simpa [Ans, wpA] using ha
    exact fin (aEntry_sound H (hρ it) ha)
  | extract x i =>
    simp [cOp] at hc; subst hc
    have ha : aExtract (ev σ (cOpd x)) i (· = v) := by simpa [Ans, wpA] using ha
    exact fin (aExtract_sound (hρ x) ha)
  | call c =>
    obtain ⟨callee, args, argTypes⟩ := c
    cases callee with
    | value f => simp [cOp] at hc
    | invoke r n => simp [cOp] at hc
    | builtin b =>
      simp only [cOp] at hc
      obtain ⟨al⟩ := args
      unfold cBuiltin at hc
      split at hc
      · rename_i x hx
        simp at hx; subst hx
        cases h0 : argTypes[0]? with
        | none => simp [h0] at hc
        | some t =>
          cases hu : P.underlying t with
          | none => simp [h0, hu] at hc
          | some d =>
            simp only [h0, hu, Option.bind_eq_bind, Option.bind_some] at hc
            have call : ∀ {c : Value}, (Builtin.len_ argTypes ty #[ρ x]).run P w = .ok c w → (execOp ρ ⟨dst, .call { callee := .builtin .len, args := ⟨[x]⟩, argTypes }, ty, pos, after, guard⟩).run P w = .ok (.value c) w := by
              intro c e
              simp [execOp, resolve, invoke, builtin, e]
            split at hc
            · cases hc
              simp only [Ans, wpA] at ha
              split at ha
              · rename_i s e
                have := hρ x; rw [e] at this
                have hx := this.str_inv
                obtain ⟨rfl, _⟩ := ha
                exact ⟨_, call (by rw [hx]; simp [Builtin.len_, h0, run_underlying hu, goInt, mk_size]), .int _ _⟩
              · exact ha.elim
            · cases hc
              have ha : aLenSl (ev σ (cOpd x)) (· = v) := by simpa [Ans, wpA] using ha
              have hx := hρ x
              have lens : ∀ {a : Option Addr} {n k : Nat}, ρ x = .slice a n k → (Builtin.len_ argTypes ty #[ρ x]).run P w = .ok (.int .i64 n) w := by
                intro a n k e; rw [e]; simp [Builtin.len_, h0, run_underlying hu, goInt]
              unfold aLenSl at ha
              split at ha
              · rename_i e; rw [e] at hx
                subst ha
                generalize hg : ρ x = cx at hx
                cases hx; exact ⟨_, call (lens hg), .int _ _⟩
              · rename_i sz l e; rw [e] at hx
                subst ha
                generalize hg : ρ x = cx at hx
                cases hx
                · exact ⟨_, call (lens hg), .int _ _⟩
                · exact ⟨_, call (lens hg), .int _ _⟩
              · rename_i r n e; rw [e] at hx
                subst ha
                generalize hg : ρ x = cx at hx
                cases hx
                · exact ⟨_, call (lens hg), .int _ _⟩
                · exact ⟨_, call (lens hg), .int _ _⟩
              · exact ha.elim
            · cases hc
              have ha : aLenMap (ev σ (cOpd x)) h (· = v) := by simpa [Ans, wpA] using ha
              unfold aLenMap at ha
              obtain ⟨es, rfl, he⟩ := aEnts_det ha
              rcases ents_at H (hρ x) he with ⟨hx, rfl⟩ | ⟨r, ces, clock, hx, hb, hr, _⟩
              · exact ⟨_, call (by rw [hx]; simp [Builtin.len_, h0, run_underlying hu, goInt]), .int _ _⟩
              · have hl : ces.size = es.length := by have := hr.1; simpa using this.symm
                exact ⟨_, call (by rw [hx]; simp [Builtin.len_, h0, run_underlying hu, goInt, run_getObj (P := P) hb (by intro a b c; simp), hl]), .int _ _⟩
            · cases hc
              obtain ⟨rfl, _⟩ := ha
              exact ⟨_, call (by simp [Builtin.len_, h0, run_underlying hu, goInt]), .int _ _⟩
            · rename_i a
              cases hu' : P.underlying a with
              | none => simp [hu'] at hc
              | some d' =>
                simp only [hu', Option.bind_some] at hc
                split at hc
                · cases hc
                  obtain ⟨rfl, _⟩ := ha
                  exact ⟨_, call (by simp [Builtin.len_, h0, run_underlying hu, run_underlying hu', goInt]), .int _ _⟩
                · cases hc
            · cases hc
      · rename_i x y hx
        exfalso
        cases h0 : argTypes[0]? with
        | none => simp [h0] at hc
        | some t =>
          cases h1 : argTypes[1]? with
          | none => simp [h0, h1] at hc
          | some u =>
            simp only [h0, h1, Option.bind_eq_bind, Option.bind_some] at hc
            cases hu : P.underlying t with
            | none => simp [hu] at hc
            | some d =>
              simp only [hu, Option.bind_some] at hc
              split at hc
              · rename_i e
                cases hz : zeroOf P e with
                | none => simp [hz] at hc
                | some z =>
                  cases hb : bytesOf? P e with
                  | none => simp [hz, hb] at hc
                  | some b =>
                    cases hu' : P.underlying u with
                    | none => simp [hz, hb, hu'] at hc
                    | some d' =>
                      simp only [hz, hb, hu', Option.bind_some] at hc
                      split at hc
                      · cases hc; simp [AOp.quiet] at hq
                      · cases hc
              · cases hc
      · exfalso
        cases h0 : argTypes[0]? with
        | none => simp [h0] at hc
        | some t =>
          cases hu : P.underlying t with
          | none => simp [h0, hu] at hc
          | some d =>
            simp only [h0, hu, Option.bind_eq_bind, Option.bind_some] at hc
            split at hc
            · rename_i e
              cases hz : sizeOf? P e with
              | none => simp [hz] at hc
              | some s => simp [hz] at hc; subst hc; simp [AOp.quiet] at hq
            · cases hc
      · exfalso
        cases h0 : argTypes[0]? with
        | none => simp [h0] at hc
        | some t =>
          cases hu : P.underlying t with
          | none => simp [h0, hu] at hc
          | some d =>
            simp only [h0, hu, Option.bind_eq_bind, Option.bind_some] at hc
            split at hc
            · rename_i kt e
              cases hk : P.underlying kt with
              | none => simp [hk] at hc
              | some kd =>
                cases hck : ckOf kd with
                | none => simp [hk, hck] at hc
                | some ck => simp [hk, hck] at hc; subst hc; simp [AOp.quiet] at hq
            · cases hc
      all_goals
        first
          | (cases hc; done)
          | (cases hc
             simp only [Ans, wpA, List.map_map] at ha
             have hr : VRels m (al.map (ev σ ∘ cOpd)) (al.map ρ) := VRels.of_map (f := ev σ ∘ cOpd) (g := ρ) al hρ
             have ha' := ha
             split at ha
             · rename_i x r e
               obtain ⟨u, h1, rfl, _⟩ := ha
               rw [e] at hr
               obtain ⟨c, cs, e', g1, g2⟩ := hr.inv_cons
               obtain ⟨z, k1, k2⟩ := aMMs_sound (P := P) (w := w) g1 g2 h1
               refine ⟨z, ?_, k2⟩
               have e2 : (Array.map ρ ⟨al⟩).toList = c :: cs := by simpa using e'
               have e3 : (Array.map ρ ⟨al⟩) = (c :: cs).toArray := by rw [← e2]
               first
                 | (simp only [execOp, resolve, invoke, builtin, Builtin.min_, Sem.run_bind, Sem.run_pure, Result.andThen_ok, e2]; rw [show (List.foldlM Builtin.min2 c cs).run P w = .ok z w from k1]; rfl)
                 | (simp only [execOp, resolve, invoke, builtin, Builtin.max_, Sem.run_bind, Sem.run_pure, Result.andThen_ok, e2]; rw [show (List.foldlM Builtin.max2 c cs).run P w = .ok z w from k1]; rfl)
             · exact ha.elim)
  | makeMap t r =>
    cases r with
    | none => simp [cOp] at hc; subst hc; simp [AOp.quiet] at hq
    | some _ => simp [cOp] at hc
  | next it b =>
    cases b <;> simp [cOp] at hc
    subst hc; simp [AOp.quiet] at hq
  | range t x =>
    simp only [cOp, Option.bind_eq_bind] at hc
    cases hu : P.underlying t with
    | none => simp [hu] at hc
    | some d =>
      simp only [hu, Option.bind_some] at hc
      split at hc
      · cases hc; simp [AOp.quiet] at hq
      · cases hc
  | alloc e =>
    simp only [cOp, Option.bind_eq_bind] at hc
    cases hz : zeroOf P e with
    | none => simp [hz] at hc
    | some z => simp [hz] at hc; obtain ⟨_, rfl⟩ := hc; simp [AOp.quiet] at hq
  | box e x =>
    simp only [cOp, Option.bind_eq_bind] at hc
    cases hz : sizeOf? P e with
    | none => simp [hz] at hc
    | some z => simp [hz] at hc; subst hc; simp [AOp.quiet] at hq
  | store t a x =>
    simp only [cOp, Option.bind_eq_bind] at hc
    cases hz : sizeOf? P t with
    | none => simp [hz] at hc
    | some z => simp [hz] at hc; subst hc; simp [AOp.quiet] at hq
  | buildSlice t n ps =>
    simp only [cOp, Option.bind_eq_bind] at hc
    cases hu : P.underlying t with
    | none => simp [hu] at hc
    | some d =>
      simp only [hu, Option.bind_some] at hc
      split at hc
      · rename_i e
        cases hz : sizeOf? P e with
        | none => simp [hz] at hc
        | some s =>
          cases hz' : zeroOf P e with
          | none => simp [hz, hz'] at hc
          | some z =>
            simp only [hz, hz', Option.bind_some] at hc
            split at hc
            · cases hc
            · cases hq' : cParts P (fun i => some (i * s, s)) ps.toList with
              | none => simp [hq'] at hc
              | some qs => simp [hq'] at hc; subst hc; simp [AOp.quiet] at hq
      · cases hc
  | makeSlice t l c =>
    simp only [cOp, Option.bind_eq_bind] at hc
    cases hu : P.underlying t with
    | none => simp [hu] at hc
    | some d =>
      simp only [hu, Option.bind_some] at hc
      split at hc
      · rename_i e
        cases hz' : zeroOf P e with
        | none => simp [hz'] at hc
        | some z =>
          simp only [hz', Option.bind_some] at hc
          split at hc
          · cases hb : bytesOf? P e with
            | none => simp [hb] at hc
            | some b => simp [hb] at hc; subst hc; simp [AOp.quiet] at hq
          · cases hc
      · cases hc
  | mapUpdate t mp k x =>
    simp only [cOp, Option.bind_eq_bind] at hc
    cases hu : P.underlying t with
    | none => simp [hu] at hc
    | some d =>
      simp only [hu, Option.bind_some] at hc
      split at hc
      · rename_i kt e
        cases hk : P.underlying kt with
        | none => simp [hk] at hc
        | some kd =>
          cases hck : ckOf kd with
          | none => simp [hk, hck] at hc
          | some ck => simp [hk, hck] at hc; subst hc; simp [AOp.quiet] at hq
      · cases hc
  | _ => simp [cOp] at hc

end Gls
