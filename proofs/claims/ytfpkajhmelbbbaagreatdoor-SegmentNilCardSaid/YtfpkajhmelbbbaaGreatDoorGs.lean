/- Every operation that changes memory: what the view says holds of the model's. No condition. -/
import Derived.Test.YtfpkajhmelbbbaaGreatDoorGr
set_option linter.unusedVariables false
set_option linter.unusedSimpArgs false
namespace Gls
open Go
variable {P : Program} {m : Emb} {h : AH} {w : World}

theorem eff_sound (H : HRel P m h w) {o : Oper} {op : AOp} {σ : Env} {ρ : Operand → Value} {K : AV → AH → Prop} (hc : cOp P o = some op) (hq : op.quiet = false) (hρ : ∀ x, VRel m (ev σ (cOpd x)) (ρ x))
    (hw : wpA (ev σ) h K op) : Did P m K ((execOp ρ o).run P w) := by
  obtain ⟨dst, oop, ty, pos, after, guard⟩ := o
  cases oop with
  | alloc e =>
    simp only [cOp, Option.bind_eq_bind] at hc
    cases hz : zeroOf P e with
    | none => simp [hz] at hc
    | some z =>
      simp only [hz, Option.bind_some] at hc
      split at hc
      · rename_i hs; cases hc; exact alloc_sound H hs hz hw
      · cases hc
  | box e x =>
    simp only [cOp, Option.bind_eq_bind] at hc
    cases hz : sizeOf? P e with
    | none => simp [hz] at hc
    | some s => simp only [hz, Option.bind_some] at hc; cases hc; exact box_sound H hz (hρ x) hw
  | store t a x =>
    simp only [cOp, Option.bind_eq_bind] at hc
    cases hz : sizeOf? P t with
    | none => simp [hz] at hc
    | some s => simp only [hz, Option.bind_some] at hc; cases hc; exact store_sound H hz (hρ a) (hρ x) hw
  | buildSlice t n ps =>
    simp only [cOp, Option.bind_eq_bind] at hc
    cases hu : P.underlying t with
    | none => simp [hu] at hc
    | some d =>
      simp only [hu, Option.bind_some] at hc
      split at hc
      · rename_i e
        cases hz : sizeOf? P e with
        | none => simp [hz] at hc
        | some s =>
          cases hz' : zeroOf P e with
          | none => simp [hz, hz'] at hc
          | some z =>
            simp only [hz, hz', Option.bind_some] at hc
            split at hc
            · cases hc
            · rename_i hn
              cases hq' : cParts P (fun i => some (i * s, s)) ps.toList with
              | none => simp [hq'] at hc
              | some qs =>
                simp only [hq', Option.bind_some] at hc
                cases hc
                rw [not_or] at hn
                have hs : z.cells.size = s := by have := hn.2; omega
                subst hs
                exact mkSlice_sound H hρ hu hz' hz hn.1 hq' hw
      · cases hc
  | makeSlice t l c =>
    simp only [cOp, Option.bind_eq_bind] at hc
    cases hu : P.underlying t with
    | none => simp [hu] at hc
    | some d =>
      simp only [hu, Option.bind_some] at hc
      split at hc
      · rename_i e
        cases hz' : zeroOf P e with
        | none => simp [hz'] at hc
        | some z =>
          simp only [hz', Option.bind_some] at hc
          split at hc
          · rename_i hs
            cases hb : bytesOf? P e with
            | none => simp [hb] at hc
            | some b =>
              simp only [hb, Option.bind_some] at hc
              cases hc
              exact makeSlice_sound H hu hz' hs hb (hρ l) (hρ c) hw
          · cases hc
      · cases hc
  | convert src dst' x =>
    simp only [cOp, Option.bind_eq_bind] at hc
    cases hs : P.underlying src with
    | none => simp [hs] at hc
    | some ds =>
      cases hd : P.underlying dst' with
      | none => simp [hs, hd] at hc
      | some dd =>
        simp only [hs, hd, Option.bind_some] at hc
        split at hc
        · cases hc; simp [AOp.quiet] at hq
        · cases hc; simp [AOp.quiet] at hq
        · rename_i e
          cases he : P.underlying e with
          | none => simp [he] at hc
          | some de =>
            simp only [he, Option.bind_some] at hc
            split at hc
            · split at hc
              · rename_i hz; cases hc; exact s2b_sound H hs hd he hz hw (hρ x)
              · cases hc
            · cases hc
        · rename_i e
          cases he : P.underlying e with
          | none => simp [he] at hc
          | some de =>
            simp only [he, Option.bind_some] at hc
            split at hc
            · split at hc
              · cases hc; simp [AOp.quiet] at hq
              · cases hc
            · cases hc
        · cases hc
  | makeMap t r =>
    cases r with
    | none => simp only [cOp] at hc; cases hc; exact mkMap_sound H hw
    | some _ => simp [cOp] at hc
  | mapUpdate t mp k x =>
    simp only [cOp, Option.bind_eq_bind] at hc
    cases hu : P.underlying t with
    | none => simp [hu] at hc
    | some d =>
      simp only [hu, Option.bind_some] at hc
      split at hc
      · rename_i kt e
        cases hk : P.underlying kt with
        | none => simp [hk] at hc
        | some kd =>
          cases hck : ckOf kd with
          | none => simp [hk, hck] at hc
          | some ck =>
            simp only [hk, hck, Option.bind_some] at hc
            cases hc
            exact mapUpdate_sound H hu hk hck (hρ mp) (hρ k) (hρ x) hw
      · cases hc
  | range t x =>
    simp only [cOp, Option.bind_eq_bind] at hc
    cases hu : P.underlying t with
    | none => simp [hu] at hc
    | some d =>
      simp only [hu, Option.bind_some] at hc
      split at hc
      · cases hc; exact range_sound H hu (hρ x) hw
      · cases hc
  | next it b =>
    cases b
    · simp only [cOp] at hc; cases hc; exact next_sound H (hρ it) hw
    · simp [cOp] at hc
  | call c =>
    obtain ⟨callee, args, argTypes⟩ := c
    cases callee with
    | value f => simp [cOp] at hc
    | invoke r n => simp [cOp] at hc
    | builtin b =>
      simp only [cOp] at hc
      obtain ⟨al⟩ := args
      unfold cBuiltin at hc
      split at hc
      · exfalso
        rename_i x hx
        cases h0 : argTypes[0]? with
        | none => simp [h0] at hc
        | some t =>
          cases hu : P.underlying t with
          | none => simp [h0, hu] at hc
          | some d =>
            simp only [h0, hu, Option.bind_eq_bind, Option.bind_some] at hc
            split at hc
            · cases hc; simp [AOp.quiet] at hq
            · cases hc; simp [AOp.quiet] at hq
            · cases hc; simp [AOp.quiet] at hq
            · cases hc; simp [AOp.quiet] at hq
            · rename_i a
              cases hu' : P.underlying a with
              | none => simp [hu'] at hc
              | some d' =>
                simp only [hu', Option.bind_some] at hc
                split at hc
                · cases hc; simp [AOp.quiet] at hq
                · cases hc
            · cases hc
      · rename_i x y hx
        simp at hx; subst hx
        cases h0 : argTypes[0]? with
        | none => simp [h0] at hc
        | some t =>
          cases h1 : argTypes[1]? with
          | none => simp [h0, h1] at hc
          | some u =>
            simp only [h0, h1, Option.bind_eq_bind, Option.bind_some] at hc
            cases hu : P.underlying t with
            | none => simp [hu] at hc
            | some d =>
              simp only [hu, Option.bind_some] at hc
              split at hc
              · rename_i e
                cases hz : zeroOf P e with
                | none => simp [hz] at hc
                | some z =>
                  cases hb : bytesOf? P e with
                  | none => simp [hz, hb] at hc
                  | some b =>
                    cases hu' : P.underlying u with
                    | none => simp [hz, hb, hu'] at hc
                    | some d' =>
                      simp only [hz, hb, hu', Option.bind_some] at hc
                      split at hc
                      · rename_i hcond
                        cases hc
                        rw [show (execOp ρ ⟨dst, .call { callee := .builtin .append, args := ⟨[x, y]⟩, argTypes }, ty, pos, after, guard⟩).run P w = (do pure (Next.value (← Builtin.append_ argTypes ty #[ρ x, ρ y])) : Sem Next).run P w by simp [execOp, resolve, invoke, builtin]]; exact append_sound H h0 h1 hu hu' hcond.1 hz hcond.2.1 hb hcond.2.2 (hρ x) (hρ y) hw
                      · cases hc
              · cases hc
      · rename_i x y hx
        simp at hx; subst hx
        cases h0 : argTypes[0]? with
        | none => simp [h0] at hc
        | some t =>
          cases hu : P.underlying t with
          | none => simp [h0, hu] at hc
          | some d =>
            simp only [h0, hu, Option.bind_eq_bind, Option.bind_some] at hc
            split at hc
            · rename_i e
              cases hz : sizeOf? P e with
              | none => simp [hz] at hc
              | some s =>
                simp only [hz, Option.bind_some] at hc
                cases hc
                rw [show (execOp ρ ⟨dst, .call { callee := .builtin .copy, args := ⟨[x, y]⟩, argTypes }, ty, pos, after, guard⟩).run P w = (do pure (Next.value (← Builtin.copy_ argTypes ty #[ρ x, ρ y])) : Sem Next).run P w by simp [execOp, resolve, invoke, builtin]]; exact copy_sound H h0 hu hz (hρ x) (hρ y) hw
            · cases hc
      · rename_i x y hx
        simp at hx; subst hx
        cases h0 : argTypes[0]? with
        | none => simp [h0] at hc
        | some t =>
          cases hu : P.underlying t with
          | none => simp [h0, hu] at hc
          | some d =>
            simp only [h0, hu, Option.bind_eq_bind, Option.bind_some] at hc
            split at hc
            · rename_i kt e
              cases hk : P.underlying kt with
              | none => simp [hk] at hc
              | some kd =>
                cases hck : ckOf kd with
                | none => simp [hk, hck] at hc
                | some ck =>
                  simp only [hk, hck, Option.bind_some] at hc
                  cases hc
                  rw [show (execOp ρ ⟨dst, .call { callee := .builtin .delete, args := ⟨[x, y]⟩, argTypes }, ty, pos, after, guard⟩).run P w = (do pure (Next.value (← Builtin.delete_ argTypes ty #[ρ x, ρ y])) : Sem Next).run P w by simp [execOp, resolve, invoke, builtin]]; exact delete_sound H h0 hu hk hck (hρ x) (hρ y) hw
            · cases hc
      · cases hc; simp [AOp.quiet] at hq
      · cases hc; simp [AOp.quiet] at hq
      · cases hc
  | move x => simp only [cOp] at hc; cases hc; simp [AOp.quiet] at hq
  | assign x => simp only [cOp] at hc; cases hc; simp [AOp.quiet] at hq
  | pick c a b => simp only [cOp] at hc; cases hc; simp [AOp.quiet] at hq
  | nilCheck x => simp only [cOp] at hc; cases hc; simp [AOp.quiet] at hq
  | unOp op t x => simp only [cOp] at hc; cases hc; simp [AOp.quiet] at hq
  | makeFunc f a b => simp only [cOp] at hc; cases hc; simp [AOp.quiet] at hq
  | entry it => simp only [cOp] at hc; cases hc; simp [AOp.quiet] at hq
  | extract x i => simp only [cOp] at hc; cases hc; simp [AOp.quiet] at hq
  | build t ps =>
    exfalso
    simp only [cOp, Option.bind_eq_bind, Option.bind_eq_some_iff] at hc
    obtain ⟨z, _, d, _, hc⟩ := hc
    split at hc
    · simp only [Option.bind_eq_some_iff] at hc; obtain ⟨_, _, _, _, hc⟩ := hc; cases hc; simp [AOp.quiet] at hq
    · simp only [Option.bind_eq_some_iff] at hc; obtain ⟨_, _, _, _, hc⟩ := hc; cases hc; simp [AOp.quiet] at hq
    · cases hc
  | load t a =>
    exfalso
    simp only [cOp, Option.bind_eq_bind, Option.bind_eq_some_iff] at hc
    obtain ⟨_, _, hc⟩ := hc; cases hc; simp [AOp.quiet] at hq
  | binOp op t x y yt =>
    exfalso
    simp only [cOp, Option.bind_eq_bind, Option.bind_eq_some_iff] at hc
    obtain ⟨d, _, hc⟩ := hc
    split at hc
    · cases hc; simp [AOp.quiet] at hq
    · cases hc; simp [AOp.quiet] at hq
    · simp only [Option.bind_eq_some_iff] at hc
      obtain ⟨k, _, hc⟩ := hc
      split at hc
      · cases hc; simp [AOp.quiet] at hq
      · cases hc; simp [AOp.quiet] at hq
      · cases hc
  | makeInterface t x =>
    exfalso
    simp only [cOp, Option.bind_eq_bind, Option.bind_eq_some_iff] at hc
    obtain ⟨d, _, hc⟩ := hc
    split at hc
    · cases hc
    · cases hc; simp [AOp.quiet] at hq
  | slice t x lo hi mx =>
    exfalso
    cases mx with
    | some _ => simp [cOp] at hc
    | none =>
      simp only [cOp, Option.bind_eq_bind, Option.bind_eq_some_iff] at hc
      obtain ⟨d, _, hc⟩ := hc
      split at hc
      · cases hc; simp [AOp.quiet] at hq
      · simp only [Option.bind_eq_some_iff] at hc; obtain ⟨_, _, hc⟩ := hc; cases hc; simp [AOp.quiet] at hq
      · cases hc
  | fieldAddr t x f =>
    exfalso
    simp only [cOp, Option.bind_eq_bind, Option.bind_eq_some_iff] at hc
    obtain ⟨d, _, hc⟩ := hc
    split at hc
    · simp only [Option.bind_eq_some_iff] at hc
      obtain ⟨_, _, _, _, hc⟩ := hc
      split at hc
      · cases hc
      · cases hc; simp [AOp.quiet] at hq
    · cases hc
  | field t x f =>
    exfalso
    simp only [cOp, Option.bind_eq_bind, Option.bind_eq_some_iff] at hc
    obtain ⟨d, _, hc⟩ := hc
    split at hc
    · simp only [Option.bind_eq_some_iff] at hc; obtain ⟨_, _, _, _, hc⟩ := hc; cases hc; simp [AOp.quiet] at hq
    · cases hc
  | indexAddr t x i =>
    exfalso
    simp only [cOp, Option.bind_eq_bind, Option.bind_eq_some_iff] at hc
    obtain ⟨d, _, hc⟩ := hc
    split at hc
    · simp only [Option.bind_eq_some_iff] at hc; obtain ⟨_, _, hc⟩ := hc; cases hc; simp [AOp.quiet] at hq
    · simp only [Option.bind_eq_some_iff] at hc; obtain ⟨_, _, hc⟩ := hc; cases hc; simp [AOp.quiet] at hq
    · cases hc
  | index t x i =>
    exfalso
    simp only [cOp, Option.bind_eq_bind, Option.bind_eq_some_iff] at hc
    obtain ⟨d, _, hc⟩ := hc
    split at hc
    · cases hc; simp [AOp.quiet] at hq
    · simp only [Option.bind_eq_some_iff] at hc; obtain ⟨_, _, _, _, hc⟩ := hc; cases hc; simp [AOp.quiet] at hq
    · cases hc
  | lookup t mp k ok =>
    exfalso
    simp only [cOp, Option.bind_eq_bind, Option.bind_eq_some_iff] at hc
    obtain ⟨d, _, hc⟩ := hc
    split at hc
    · simp only [Option.bind_eq_some_iff] at hc; obtain ⟨_, _, _, _, _, _, hc⟩ := hc; cases hc; simp [AOp.quiet] at hq
    · cases hc
  | _ => simp [cOp] at hc

end Gls
