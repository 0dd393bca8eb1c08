/- Drawn regions: every order that may be drawn is covered by a plan. No condition. -/
import Derived.Test.YtfpkajhmelbbbaaGreatDoorGt
set_option linter.unusedVariables false
set_option linter.unusedSimpArgs false
namespace Gls
open Go
variable {P : Program} {n : Nat}

/-- What was looked at before is so still. -/
def chk1 (σ : Env) (h : AH) (o : AOper) : Prop :=
  match o.ins with
  | .op op => wpA (ev σ) h (fun v _ => match o.dst with | some d => σ d = v | none => True) op
  | _ => False
def chkG (σ : Env) (h : AH) (o : AOper) : Prop :=
  match o.guard with
  | none => chk1 σ h o
  | some (t, want) => ∃ g, guardIs (σ t) want g ∧ (g = true → chk1 σ h o)
def chkAll (σ : Env) (h : AH) : List AOper → Prop
  | [] => True
  | o :: os => chkG σ h o ∧ chkAll σ h os

def wpPlan (P : Program) : Plan → Env → AH → (Env → AH → Prop) → Prop
  | .done, σ, h, K => K σ h
  | .stop, σ, h, K => True
  | .q o p, σ, h, K =>
    match o.guard with
    | none => wpI P (ev σ) h (fun v h' => wpPlan P p (updO σ o.dst v) h' K) o.ins
    | some (t, want) => gsplit (σ t) want (wpI P (ev σ) h (fun v h' => wpPlan P p (updO σ o.dst v) h' K) o.ins) (wpPlan P p (updO σ o.dst (.tup [])) h K)
  | .e o chk p other, σ, h, K =>
    (match o.guard with
    | none => wpI P (ev σ) h (fun v h' => chkAll σ h' chk ∧ wpPlan P p (updO σ o.dst v) h' K) o.ins
    | some (t, want) => gsplit (σ t) want (wpI P (ev σ) h (fun v h' => chkAll σ h' chk ∧ wpPlan P p (updO σ o.dst v) h' K) o.ins) (wpPlan P p (updO σ o.dst (.tup [])) h K)) ∧ wpPlan P other σ h K

theorem wpA_congr {ρ ρ' : Opd → AV} {h : AH} {K : AV → AH → Prop} {op : AOp} (hc : ∀ x ∈ op.opds, ρ x = ρ' x) (H : wpA ρ h K op) : wpA ρ' h K op := by
  have lst : ∀ (l : List Opd), (∀ x ∈ l, ρ x = ρ' x) → l.map ρ = l.map ρ' := fun l hl => List.map_congr_left hl
  have prt : ∀ (l : List (Nat × Nat × Opd)), (∀ x ∈ l.map (·.2.2), ρ x = ρ' x) → (l.map fun (o, s, x) => (o, s, ρ x)) = (l.map fun (o, s, x) => (o, s, ρ' x)) := fun l hl =>
    List.map_congr_left fun q hq => by
      have := hl q.2.2 (List.mem_map_of_mem (f := fun q : Nat × Nat × Opd => q.2.2) hq)
      obtain ⟨a, b, c⟩ := q
      simp only at this ⊢; rw [this]
  have opt : ∀ (o : Option Opd), (∀ x ∈ o.toList, ρ x = ρ' x) → o.map ρ = o.map ρ' := fun o ho => by
    cases o with
    | none => rfl
    | some x => simp [ho x (by simp)]
  cases op <;> simp only [AOp.opds] at hc <;> simp only [wpA] at H ⊢
  case alloc => exact H
  case mkMap => exact H
  case lenArr => exact H
  case build z ps =>
    rw [← prt ps hc]
    refine ⟨fun q hq => ?_, H.2⟩
    rw [← hc _ (List.mem_map_of_mem hq)]; exact H.1 q hq
  case mkSlice T sz len z ps =>
    rw [← prt ps hc]
    obtain ⟨⟨a, b, c⟩, d⟩ := H
    refine ⟨⟨a, b, fun q hq => ?_⟩, d⟩
    rw [← hc _ (List.mem_map_of_mem hq)]; exact c q hq
  case mkFunc f a b => rw [← lst a fun x hx => hc x (by simp [hx]), ← lst b fun x hx => hc x (by simp [hx])]; exact H
  case minmax mx l => rw [← lst l hc]; exact H
  case sliceStr x lo hi => rw [← hc x (by simp), ← opt lo fun y hy => hc y (by simp at hy ⊢; simp [hy]), ← opt hi fun y hy => hc y (by simp at hy ⊢; simp [hy])]; exact H
  case sliceSl T sz x lo hi => rw [← hc x (by simp), ← opt lo fun y hy => hc y (by simp at hy ⊢; simp [hy]), ← opt hi fun y hy => hc y (by simp at hy ⊢; simp [hy])]; exact H
  case pick c a b => rw [← hc c (by simp), ← hc a (by simp), ← hc b (by simp)]; exact H
  case mapUpdate ck c a b => rw [← hc c (by simp), ← hc a (by simp), ← hc b (by simp)]; exact H
  all_goals first
    | (rename_i x y; rw [← hc x (by simp), ← hc y (by simp)]; exact H)
    | (rename_i x; rw [← hc x (by simp)]; exact H)
    | (rename_i x _; rw [← hc x (by simp)]; exact H)

theorem Ans.congr {ρ ρ' : Opd → AV} {h : AH} {op : AOp} {v : AV} (hc : ∀ x ∈ op.opds, ρ x = ρ' x) (H : Ans ρ h op v) : Ans ρ' h op v := wpA_congr hc H

/-- What doesn't look at memory answers the same in all. -/
theorem Ans.still {ρ : Opd → AV} {h h' : AH} {op : AOp} {v : AV} (hq : op.quiet = true) (hl : op.looks = false) (H : Ans ρ h op v) : Ans ρ h' op v := by
  unfold Ans at *
  have fin : ∀ {F : (AV → Prop) → Prop}, (∀ K K' : AV → Prop, (∀ v, K v → K' v) → F K → F K') → (F fun v' => v' = v ∧ h = h) → F fun v' => v' = v ∧ h' = h' := fun mono k => mono _ _ (fun v e => ⟨e.1, rfl⟩) k
  cases op <;> simp only [AOp.quiet, Bool.false_eq_true] at hq <;> simp only [AOp.looks, Bool.true_eq_false] at hl <;> simp only [wpA, and_true] at H ⊢ <;> exact H

theorem wpI_congr {ρ ρ' : Opd → AV} {h : AH} {K : AV → AH → Prop} {i : AInstr} (hc : ∀ x ∈ i.opds, ρ x = ρ' x) (H : wpI P ρ h K i) : wpI P ρ' h K i := by
  cases i with
  | op o => exact wpA_congr hc H
  | call f args =>
    simp only [wpI] at H ⊢
    have e : args.map ρ = args.map ρ' := List.map_congr_left hc
    rw [← e]; exact H
  | callv x args =>
    simp only [wpI] at H ⊢
    have e : args.map ρ = args.map ρ' := List.map_congr_left fun y hy => hc y (by simp [AInstr.opds, hy])
    rw [← hc x (by simp [AInstr.opds]), ← e]; exact H

theorem ev_congr {σ σ' : Env} {x : Opd} (h : ∀ t ∈ x.temps, σ t = σ' t) : ev σ x = ev σ' x := by
  cases x <;> simp only [ev, Opd.temps] at * 
  exact h _ (by simp)

/-- An operation that has been taken ahead: what it will answer when its time comes. -/
def DelI (σ : Env) (h : AH) (o : AOper) (op : AOp) : Prop := ∃ v, Ans (ev σ) h op v ∧ ∀ d, o.dst = some d → σ d = v
def Del (σ : Env) (h : AH) (o : AOper) : Prop :=
  ∃ op, o.ins = .op op ∧ op.quiet = true ∧
    match o.guard with
    | none => DelI σ h o op
    | some (t, want) => ∃ g, guardIs (σ t) want g ∧ (g = true → DelI σ h o op) ∧ (g = false → ∀ d, o.dst = some d → σ d = .tup [])

theorem AOper.reads_opd {o : AOper} {op : AOp} (h : o.ins = .op op) {x : Opd} (hx : x ∈ op.opds) {t : Nat} (ht : t ∈ x.temps) : t ∈ o.reads := by
  unfold AOper.reads
  rw [h]
  exact List.mem_append.2 (.inl (List.mem_flatMap.2 ⟨x, hx, ht⟩))
theorem AOper.reads_ins {o : AOper} {x : Opd} (hx : x ∈ o.ins.opds) {t : Nat} (ht : t ∈ x.temps) : t ∈ o.reads := by
  unfold AOper.reads
  exact List.mem_append.2 (.inl (List.mem_flatMap.2 ⟨x, hx, ht⟩))
theorem AOper.reads_guard {o : AOper} {t : Nat} {b : Bool} (h : o.guard = some (t, b)) : t ∈ o.reads := by
  unfold AOper.reads
  rw [h]; simp

/-- It stays so under what it doesn't hang on. -/
theorem Del.keep {σ σ' : Env} {h h' : AH} {o : AOper} (D : Del σ h o) (hr : ∀ t ∈ o.reads, σ' t = σ t) (hd : ∀ d, o.dst = some d → σ' d = σ d) (hh : o.ins.looks = true → h' = h ∨ chkG σ h' o) : Del σ' h' o := by
  obtain ⟨op, h1, h2, h3⟩ := D
  have ho : ∀ x ∈ op.opds, ev σ x = ev σ' x := fun x hx => ev_congr fun t ht => (hr t (o.reads_opd h1 hx ht)).symm
  have look : chk1 σ h' o → DelI σ' h' o op := by
    intro hc
    unfold chk1 at hc
    rw [h1] at hc
    obtain ⟨v, a, b⟩ := ans_of h2 hc
    exact ⟨v, b.congr ho, fun d e => by rw [e] at a; rw [hd d e]; exact a⟩
  have still : (op.looks = false ∨ h' = h) → DelI σ h o op → DelI σ' h' o op := by
    rintro hl ⟨v, a, b⟩
    refine ⟨v, ?_, fun d e => by rw [hd d e]; exact b d e⟩
    rcases hl with hl | rfl
    · exact (a.still h2 hl).congr ho
    · exact a.congr ho
  refine ⟨op, h1, h2, ?_⟩
  have hl : op.looks = false ∨ h' = h ∨ chkG σ h' o := by
    cases hl : op.looks with
    | false => exact .inl rfl
    | true => exact .inr (hh (by rw [h1]; exact hl))
  cases hg : o.guard with
  | none =>
    rw [hg] at h3
    rcases hl with hl | hl | hl
    · exact still (.inl hl) h3
    · exact still (.inr hl) h3
    · unfold chkG at hl; rw [hg] at hl; exact look hl
  | some tw =>
    obtain ⟨t, want⟩ := tw
    rw [hg] at h3
    obtain ⟨b, b1, b2, b3⟩ := h3
    refine ⟨b, by rw [hr t (o.reads_guard hg)]; exact b1, fun e => ?_, fun e d ed => by rw [hd d ed]; exact b3 e d ed⟩
    rcases hl with hl | hl | hl
    · exact still (.inl hl) (b2 e)
    · exact still (.inr hl) (b2 e)
    · unfold chkG at hl; rw [hg] at hl
      obtain ⟨g, hg1, hg2⟩ := hl
      exact look (hg2 (by rw [guardIs_det hg1 b1]; exact e))

theorem cOpers_get {ops : List Oper} : ∀ {l : List Oper} {al : List AOper}, cOpers P n ops l = some al → al.length = l.length ∧ ∀ (i : Nat) (o : Oper), l[i]? = some o → ∃ ao, al[i]? = some ao ∧ cOper P n ops o = some ao := by
  intro l
  induction l with
  | nil => intro al h; simp [cOpers] at h; subst h; exact ⟨rfl, fun i o e => by simp at e⟩
  | cons x l ih =>
    intro al h
    simp only [cOpers, Option.bind_eq_bind, Option.bind_eq_some_iff] at h
    obtain ⟨ao, h1, al', h2, h3⟩ := h
    cases h3
    obtain ⟨a, b⟩ := ih h2
    refine ⟨by simp [a], fun i o e => ?_⟩
    cases i with
    | zero => simp at e; subst e; exact ⟨ao, by simp, h1⟩
    | succ i => simp at e; obtain ⟨ao', c, d⟩ := b i o e; exact ⟨ao', by simpa using c, d⟩

/-- In what order operations may have been taken (the last one first). -/
def Ord (pre : List (List Nat)) : List Nat → Prop
  | [] => True
  | i :: D => (∀ j ∈ preOf pre i, j ∈ D) ∧ Ord pre D

theorem Ord.least {pre : List (List Nat)} {S : Nat → Prop} : ∀ {D : List Nat}, Ord pre D → (∃ i ∈ D, ¬ S i) → ∃ i ∈ D, ¬ S i ∧ ∀ j ∈ preOf pre i, S j := by
  intro D
  induction D with
  | nil => rintro _ ⟨i, h, _⟩; simp at h
  | cons i D ih =>
    rintro ⟨h1, h2⟩ ⟨j, hj, hs⟩
    by_cases hD : ∃ i ∈ D, ¬ S i
    · obtain ⟨k, a, b⟩ := ih h2 hD
      exact ⟨k, by simp [a], b⟩
    · have hall : ∀ i ∈ D, S i := fun i hi => Classical.byContradiction fun h => hD ⟨i, hi, h⟩
      rcases List.mem_cons.1 hj with rfl | hj
      · exact ⟨j, by simp, hs, fun k hk => hall k (h1 k hk)⟩
      · exact absurd (hall j hj) hs

theorem Ord.closed {pre : List (List Nat)} : ∀ {D : List Nat}, Ord pre D → ∀ i ∈ D, ∀ j ∈ preOf pre i, j ∈ D := by
  intro D
  induction D with
  | nil => intro _ i h; simp at h
  | cons i D ih =>
    rintro ⟨h1, h2⟩ k hk j hj
    rcases List.mem_cons.1 hk with rfl | hk
    · exact List.mem_cons_of_mem _ (h1 j hj)
    · exact List.mem_cons_of_mem _ (ih h2 k hk j hj)

theorem pclos_sub {pre : List (List Nat)} {S : Nat → Prop} (hS : ∀ i, S i → ∀ j ∈ preOf pre i, S j) : ∀ (k : Nat) (xs : List Nat), (∀ x ∈ xs, S x) → ∀ x ∈ pclos pre k xs, S x := by
  intro k
  induction k with
  | zero => intro xs h x hx; exact h x hx
  | succ k ih =>
    intro xs h
    refine ih _ fun x hx => ?_
    rcases List.mem_append.1 hx with hx | hx
    · exact h x hx
    · obtain ⟨y, a, b⟩ := List.mem_flatMap.1 (List.mem_filter.1 hx).1
      exact hS y (h y a) x b

theorem drawOk_spec {l : List AOper} {pre : List (List Nat)} (h : drawOk l pre = true) {i j t : Nat} {o o' : AOper} (hi : l[i]? = some o) (hj : l[j]? = some o') (hd : o'.dst = some t) :
    (t ∈ o.reads → j ∈ preOf pre i ∨ i ∈ preOf pre j) ∧ (i ≠ j → o.dst ≠ some t) := by
  unfold drawOk at h
  have hi' := (List.getElem?_eq_some_iff.1 hi).1
  have hj' := (List.getElem?_eq_some_iff.1 hj).1
  have h1 := List.all_eq_true.1 h i (List.mem_range.2 hi')
  rw [hi] at h1
  have h2 := List.all_eq_true.1 h1 j (List.mem_range.2 hj')
  rw [hj] at h2
  simp only [hd, Bool.and_eq_true, Bool.or_eq_true, Bool.not_eq_true', bne_iff_ne, beq_iff_eq] at h2
  refine ⟨fun ht => ?_, fun hne => ?_⟩
  · rcases h2.1 with (h3 | h3) | h3
    · simp [ht] at h3
    · exact .inl (by simpa using h3)
    · exact .inr (by simpa using h3)
  · rcases h2.2 with h3 | h3
    · exact absurd h3 hne
    · exact h3

theorem solo_spec {l : List AOper} {pre : List (List Nat)} {i j t : Nat} {o o' : AOper} (h : solo l pre o i = true) (hj : l[j]? = some o') (hd : o.dst = some t) (ht : t ∈ o'.reads) : i ∈ preOf pre j := by
  unfold solo at h
  rw [hd] at h
  have hj' := (List.getElem?_eq_some_iff.1 hj).1
  have h1 := List.all_eq_true.1 h j (List.mem_range.2 hj')
  rw [hj] at h1
  simpa [ht] using h1

theorem isQ_spec {l : List AOper} {pre : List (List Nat)} {i : Nat} {o : AOper} (h : isQ l pre i = true) (hi : l[i]? = some o) : o.ins.quiet = true ∧ solo l pre o i = true := by
  simpa [isQ, hi] using h

theorem avail_spec {pre : List (List Nat)} {D : List Nat} {i : Nat} : avail pre D i = true ↔ i ∉ D ∧ ∀ j ∈ preOf pre i, j ∈ D := by
  unfold avail
  simp only [Bool.and_eq_true, Bool.not_eq_true', List.all_eq_true, List.contains_iff_mem]
  simp [← Bool.not_eq_true]


/-- What holds while a drawn region goes on. -/
structure DInv (P : Program) (n : Nat) (l : List AOper) (pre : List (List Nat)) (listed : Array Bool) (D : List Nat) (m : Emb) (σ : Env) (h : AH) (a : Act) (w : World) : Prop where
  size : listed.size = l.length
  sub : ∀ i, listed.getD i false = true → i ∈ D
  dlt : ∀ i ∈ D, i < l.length
  ord : Ord pre D
  closed : ∀ i, listed.getD i false = true → ∀ j ∈ preOf pre i, listed.getD j false = true
  defers : a.defers = []
  asize : a.tmps.size = n
  vals : ∀ t, (∀ i ∈ D, ∀ o, l[i]? = some o → o.dst = some t → listed.getD i false = true) → VRel m (σ t) (a.tmps.getD t undef)
  heap : HRel P m h w
  del : ∀ i ∈ D, listed.getD i false = false → ∃ o, l[i]? = some o ∧ Del σ h o ∧ solo l pre o i = true

theorem upd_ne {σ : Env} {dst : Option Nat} {v : AV} {t : Nat} (h : dst ≠ some t) : updO σ dst v t = σ t := by
  cases dst with
  | none => rfl
  | some d => exact if_neg fun e => h (by rw [e])
theorem upd_eq {σ : Env} {v : AV} {t : Nat} : updO σ (some t) v t = v := if_pos rfl

variable {l : List AOper} {pre : List (List Nat)}

/-- What a step writes, the ones ahead of it don't read. -/
theorem keep_del (hok : drawOk l pre = true) {D : List Nat} (ho : Ord pre D) {i j : Nat} {o oj : AOper} (hi : l[i]? = some o) (hj : l[j]? = some oj) (hD : j ∈ D) (hn : i ∉ D) (hx : ∀ t, o.dst = some t → t ∈ oj.reads → i ∈ preOf pre j) {σ : Env} {v : AV} :
    (∀ t ∈ oj.reads, updO σ o.dst v t = σ t) ∧ ∀ d, oj.dst = some d → updO σ o.dst v d = σ d := by
  have hne : j ≠ i := fun e => hn (e ▸ hD)
  refine ⟨fun t ht => upd_ne fun e => ?_, fun d hd => upd_ne fun e => ?_⟩
  · exact hn (ho.closed j hD i (hx t e ht))
  · exact (drawOk_spec hok hj hi e).2 hne hd

theorem saturate (hok : drawOk l pre = true) {listed : Array Bool} {m : Emb} {h : AH} {a : Act} {w : World} {K : Env → AH → Prop} : ∀ (k : Nat) {D : List Nat} {p : Plan} {σ : Env}, planGo l pre k D = some p → wpPlan P p σ h K → DInv P n l pre listed D m σ h a w →
    ∃ k' D' p' σ', planGo l pre (k' + 1) D' = some p' ∧ wpPlan P p' σ' h K ∧ DInv P n l pre listed D' m σ' h a w ∧
      (List.range l.length).find? (fun i => avail pre D' i && isQ l pre i) = none := by
  intro k
  induction k with
  | zero => intro D p σ hp; simp [planGo] at hp
  | succ k ih =>
    intro D p σ hp hw I
    cases hf : (List.range l.length).find? (fun i => avail pre D i && isQ l pre i) with
    | none => exact ⟨k, D, p, σ, hp, hw, I, hf⟩
    | some i =>
      have hs := List.find?_some hf
      have hlt := List.mem_range.1 (List.mem_of_find?_eq_some hf)
      simp only [planGo, hf] at hp
      have ⟨o, ho⟩ : ∃ o, l[i]? = some o := ⟨_, List.getElem?_eq_getElem hlt⟩
      simp only [isQ, ho, Bool.and_eq_true, Option.map_eq_some_iff] at hs hp
      obtain ⟨p', hp', rfl⟩ := hp
      obtain ⟨hav, hq, hsolo⟩ := hs
      obtain ⟨hn, hpre⟩ := avail_spec.1 hav
      obtain ⟨dst, guard, ins⟩ := o
      cases ins with
      | call f args => simp [AInstr.quiet] at hq
      | callv x args => simp [AInstr.quiet] at hq
      | op op =>
        simp only [AInstr.quiet] at hq
        have hunl : listed.getD i false = false := by
          cases hb : listed.getD i false with
          | false => rfl
          | true => exact absurd (I.sub i hb) hn
        -- the new state, whatever the value
        have mk : ∀ v, Del (updO σ dst v) h ⟨dst, guard, .op op⟩ → DInv P n l pre listed (i :: D) m (updO σ dst v) h a w := fun v hdel => by
          refine ⟨I.size, fun j hj => List.mem_cons_of_mem _ (I.sub j hj), fun j hj => ?_, ⟨hpre, I.ord⟩, I.closed, I.defers, I.asize, fun t ht => ?_, I.heap, fun j hj hb => ?_⟩
          · rcases List.mem_cons.1 hj with rfl | hj
            · exact hlt
            · exact I.dlt j hj
          · have hne : dst ≠ some t := fun e => by have := ht i (by simp) _ ho e; rw [hunl] at this; cases this
            rw [upd_ne hne]
            exact I.vals t fun j hj => ht j (List.mem_cons_of_mem _ hj)
          · rcases List.mem_cons.1 hj with rfl | hj
            · exact ⟨_, ho, hdel, hsolo⟩
            · obtain ⟨oj, c1, c2, c3⟩ := I.del j hj hb
              obtain ⟨k1, k2⟩ := keep_del hok I.ord ho c1 hj hn (fun t e ht => solo_spec hsolo c1 e ht) (σ := σ) (v := v)
              exact ⟨oj, c1, c2.keep k1 k2 fun _ => .inl rfl, c3⟩
        have self : ∀ t ∈ (⟨dst, guard, .op op⟩ : AOper).reads, ∀ v, updO σ dst v t = σ t := fun t ht v => upd_ne fun e => hn (hpre i (((drawOk_spec hok ho ho e).1 ht).elim id id))
        have selfo : ∀ v, ∀ x ∈ op.opds, ev σ x = ev (updO σ dst v) x := fun v x hx => ev_congr fun t ht => (self t (AOper.reads_opd (o := ⟨dst, guard, .op op⟩) rfl hx ht) v).symm
        have goI : ∀ {K' : AV → AH → Prop}, wpA (ev σ) h K' op → ∃ v, K' v h ∧ DelI (updO σ dst v) h ⟨dst, guard, .op op⟩ op := fun hw => by
          obtain ⟨v, x, y⟩ := ans_of hq hw
          exact ⟨v, x, v, y.congr (selfo v), fun d e => by simp only at e; subst e; exact upd_eq⟩
        unfold wpPlan at hw
        cases guard with
        | none =>
          simp only [wpI] at hw
          obtain ⟨v, x, y⟩ := goI hw
          exact ih hp' x (mk v ⟨op, rfl, hq, y⟩)
        | some tw =>
          obtain ⟨t, want⟩ := tw
          simp only [wpI] at hw
          obtain ⟨g, hgi, hw1, hw2⟩ := hw
          have hbt : ∀ v, guardIs (updO σ dst v t) want g := fun v => by rw [self t (AOper.reads_guard (o := ⟨dst, some (t, want), .op op⟩) rfl) v]; exact hgi
          cases g with
          | true =>
            obtain ⟨v, x, y⟩ := goI (hw1 rfl)
            exact ih hp' x (mk v ⟨op, rfl, hq, true, hbt v, fun _ => y, fun e => by cases e⟩)
          | false => exact ih hp' (hw2 rfl) (mk (.tup []) ⟨op, rfl, hq, false, hbt _, (fun e => by cases e), fun _ d e => by simp only at e; subst e; exact upd_eq⟩)


theorem chkAll_mem {σ : Env} {h : AH} : ∀ {l : List AOper}, chkAll σ h l → ∀ o ∈ l, chkG σ h o := by
  intro l
  induction l with
  | nil => intro _ o ho; simp at ho
  | cons x l ih =>
    rintro ⟨a, b⟩ o ho
    rcases List.mem_cons.1 ho with rfl | ho
    · exact a
    · exact ih b o ho

/-- One operation that isn't quiet, out of those that may come next. -/
theorem alt_get {σ : Env} {h : AH} {K : Env → AH → Prop} {D : List Nat} {k : Nat} {i : Nat} : ∀ {es : List Nat} {p : Plan}, es.foldr (fun i acc => altStep l pre D (planGo l pre k (i :: D)) i acc) (some .stop) = some p → wpPlan P p σ h K → i ∈ es →
    ∃ o p' r, l[i]? = some o ∧ planGo l pre k (i :: D) = some p' ∧ wpPlan P (.e o (chkOf l pre D i) p' r) σ h K := by
  intro es
  induction es with
  | nil => intro p _ _ h; simp at h
  | cons x es ih =>
    intro p hp hw hi
    simp only [List.foldr_cons] at hp
    unfold altStep at hp
    split at hp
    · rename_i o p' r h1 h2 h3
      cases hp
      rcases List.mem_cons.1 hi with rfl | hi
      · exact ⟨o, p', r, h1, h2, hw⟩
      · refine ih h3 ?_ hi
        unfold wpPlan at hw; exact hw.2
    · cases hp

variable {ops : Array Oper}

theorem getD_tf {listed : Array Bool} {i : Nat} : listed.getD i true = false ↔ i < listed.size ∧ listed.getD i false = false := by
  simp only [Array.getD_eq_getD_getElem?]
  cases h : listed[i]? with
  | none => simp; exact Array.getElem?_eq_none_iff.1 h
  | some b => have := (Array.getElem?_eq_some_iff.1 h).1; simp [this]

theorem ready_spec (hpre : pre = ops.toList.map cPre) {listed : Array Bool} (hs : listed.size = ops.size) {i : Nat} :
    i ∈ Region.ready .any ops listed ↔ i < ops.size ∧ listed.getD i false = false ∧ ∀ j ∈ preOf pre i, listed.getD j false = true := by
  unfold Region.ready
  rw [List.mem_filter, List.mem_range]
  constructor
  · rintro ⟨h1, h2⟩
    simp only [Bool.and_eq_true, Bool.not_eq_true'] at h2
    refine ⟨h1, (getD_tf.1 h2.1).2, fun j hj => ?_⟩
    have ho : ops[i]? = some ops[i] := Array.getElem?_eq_getElem h1
    have hp : preOf pre i = cPre ops[i] := by subst hpre; simp [preOf, h1]
    rw [hp] at hj
    unfold cPre at hj
    obtain ⟨e, he, rfl⟩ := List.mem_map.1 hj
    obtain ⟨e1, e2⟩ := List.mem_filter.1 he
    rw [ho] at h2
    simp only [Option.map_some, Option.getD_some, Array.all_eq_true] at h2
    obtain ⟨q, hq, rfl⟩ := List.getElem_of_mem e1
    have := h2.2 q (by simpa using hq)
    simp only [Bool.or_eq_true, Bool.not_eq_true'] at this
    rcases this with h3 | h3
    · simp at e2; rw [e2] at h3; cases h3
    · simpa using h3
  · rintro ⟨h1, h2, h3⟩
    refine ⟨h1, ?_⟩
    have ho : ops[i]? = some ops[i] := Array.getElem?_eq_getElem h1
    have hp : preOf pre i = cPre ops[i] := by subst hpre; simp [preOf, h1]
    rw [hp] at h3
    simp only [Bool.and_eq_true, Bool.not_eq_true', ho, Option.map_some, Option.getD_some, Array.all_eq_true, Bool.or_eq_true]
    refine ⟨getD_tf.2 ⟨by omega, h2⟩, fun q hq => ?_⟩
    cases hb : Region.binds .any (ops[i].after[q]) with
    | false => exact .inl rfl
    | true =>
      refine .inr (h3 _ ?_)
      unfold cPre
      refine List.mem_map.2 ⟨_, List.mem_filter.2 ⟨?_, hb⟩, rfl⟩
      simp

theorem count_set {listed : Array Bool} {i : Nat} (h1 : i < listed.size) (h2 : listed.getD i false = false) : (listed.setIfInBounds i true).toList.count false + 1 = listed.toList.count false := by
  have hg : listed.toList[i]'(by simpa using h1) = false := by simpa [Array.getD, h1] using h2
  rw [Array.toList_setIfInBounds]
  have hp : 0 < listed.toList.count false := List.count_pos_iff.2 (by rw [← hg]; exact List.getElem_mem _)
  rw [List.count_set (by simpa using h1)]
  rw [hg]
  have e1 : (if (false == false) = true then 1 else 0) = 1 := rfl
  have e2 : (if (true == false) = true then 1 else 0) = 0 := rfl
  rw [e1, e2]
  generalize List.count false listed.toList = c at hp
  omega

theorem getD_set {listed : Array Bool} {i j : Nat} (h1 : i < listed.size) : (listed.setIfInBounds i true).getD j false = if j = i then true else listed.getD j false := by
  simp only [Array.getD_eq_getD_getElem?]
  by_cases h : j = i
  · subst h; simp [h1]
  · rw [if_neg h, Array.getElem?_setIfInBounds_ne (Ne.symm h)]


theorem plan_sound (hok : drawOk l pre = true) (hpre : pre = ops.toList.map cPre) (hl : cOpers P n ops.toList ops.toList = some l) {Q : Exit → Env → AH → Prop} {m0 : Emb} : ∀ (fuel : Nat) {listed : Array Bool} {D : List Nat} {m : Emb} {σ : Env} {h : AH} {a : Act} {w : World} {k : Nat} {p : Plan},
    planGo l pre k D = some p → wpPlan P p σ h (Q .normal) → DInv P n l pre listed D m σ h a w → m0.le m → listed.toList.count false ≤ fuel → wpAny P .any ops (LiftE P n m0 Q) fuel listed a w := by
  have hlen : ops.size = l.length := by rw [(cOpers_get hl).1]; simp
  have hget : ∀ (i : Nat) (o : Oper), ops[i]? = some o → ∃ ao, l[i]? = some ao ∧ cOper P n ops.toList o = some ao := fun i o e => (cOpers_get hl).2 i o (by rw [Array.getElem?_toList]; exact e)
  have hget' : ∀ (i : Nat) (ao : AOper), l[i]? = some ao → ∃ o, ops[i]? = some o ∧ cOper P n ops.toList o = some ao := fun i ao e => by
    have hlt := (List.getElem?_eq_some_iff.1 e).1
    have ho : ops[i]? = some (ops[i]'(by omega)) := Array.getElem?_eq_getElem (by omega)
    obtain ⟨ao', x, y⟩ := hget i _ ho
    rw [e] at x; cases x
    exact ⟨_, ho, y⟩
  -- all is done
  have fin : ∀ {listed : Array Bool} {D : List Nat} {m : Emb} {σ : Env} {h : AH} {a : Act} {w : World} {k : Nat} {p : Plan}, planGo l pre k D = some p → wpPlan P p σ h (Q .normal) → DInv P n l pre listed D m σ h a w → m0.le m →
      Region.ready .any ops listed = [] → LiftE P n m0 Q .normal a w := by
    intro listed D m σ h a w k p hp hw I hm hr
    obtain ⟨k', D', p', σ', hp', hw', I', hf⟩ := saturate hok k hp hw I
    have nor : ∀ i, i < l.length → listed.getD i false = false → (∀ j ∈ preOf pre i, listed.getD j false = true) → False := fun i h1 h2 h3 => by
      have := (ready_spec hpre (by rw [I'.size, hlen]) (i := i)).2 ⟨by omega, h2, h3⟩
      rw [hr] at this; simp at this
    have all : ∀ i ∈ D', listed.getD i false = true := fun i hi => Classical.byContradiction fun hn => by
      obtain ⟨j, a1, a2, a3⟩ := I'.ord.least (S := fun i => listed.getD i false = true) ⟨i, hi, hn⟩
      exact nor j (I'.dlt j a1) (by simpa using a2) a3
    have none' : (List.range l.length).filter (avail pre D') = [] := List.filter_eq_nil_iff.2 fun i hi hav => by
      obtain ⟨b1, b2⟩ := avail_spec.1 hav
      refine nor i (List.mem_range.1 hi) ?_ fun j hj => all j (b2 j hj)
      cases hb : listed.getD i false with
      | false => rfl
      | true => exact absurd (I'.sub i hb) b1
    simp only [planGo, hf, none'] at hp'
    cases hp'
    exact ⟨m, σ', h, hm, ⟨I'.defers, I'.asize, fun t => I'.vals t fun i hi o _ _ => all i hi⟩, I'.heap, hw'⟩
  intro fuel
  induction fuel with
  | zero =>
    intro listed D m σ h a w k p hp hw I hm hc
    have hr : Region.ready .any ops listed = [] := by
      refine List.eq_nil_iff_forall_not_mem.2 fun i hi => ?_
      obtain ⟨h1, h2, _⟩ := (ready_spec hpre (by rw [I.size, hlen])).1 hi
      have := count_set (by rw [I.size]; omega) h2
      omega
    exact ⟨hr, fin hp hw I hm hr⟩
  | succ fuel ih =>
    intro listed D m σ h a w k p hp hw I hm hc
    refine ⟨fun hr => fin hp hw I hm hr, fun i hi => ?_⟩
    obtain ⟨k', D', p', σ', hp', hw', I', hf⟩ := saturate hok k hp hw I
    obtain ⟨hi1, hi2, hi3⟩ := (ready_spec hpre (by rw [I'.size, hlen])).1 hi
    have hsz : i < listed.size := by rw [I'.size]; omega
    have hcount := count_set hsz hi2
    have ho : ops[i]? = some ops[i] := Array.getElem?_eq_getElem hi1
    generalize ops[i] = o at ho
    obtain ⟨ao, hao, hco⟩ := hget i o ho
    obtain ⟨ins, g, hins, hg, rfl, hd⟩ := cOper_inv hco
    -- the frame as far as it is fresh
    have T : TRel n m (fun t => open Classical in if ∀ i ∈ D', ∀ o, l[i]? = some o → o.dst = some t → listed.getD i false = true then σ' t else .any) a := ⟨I'.defers, I'.asize, fun t => by
      split
      · rename_i hfr; exact I'.vals t hfr
      · exact .any _⟩
    have hfresh : ∀ t ∈ (⟨o.dst, g, ins⟩ : AOper).reads, (open Classical in if ∀ i ∈ D', ∀ o, l[i]? = some o → o.dst = some t → listed.getD i false = true then σ' t else .any) = σ' t := fun t ht => if_pos fun j hj oj h1 h2 => by
      cases hb : listed.getD j false with
      | true => rfl
      | false =>
        obtain ⟨oj', c1, _, c3⟩ := I'.del j hj hb
        rw [h1] at c1; cases c1
        have := hi3 j (solo_spec c3 hao h2 ht)
        rw [hb] at this; cases this
    generalize hσ : (fun t => open Classical in if ∀ i ∈ D', ∀ o, l[i]? = some o → o.dst = some t → listed.getD i false = true then σ' t else .any) = τ at T
    have hτ : ∀ t ∈ (⟨o.dst, g, ins⟩ : AOper).reads, τ t = σ' t := fun t ht => by rw [← hσ]; exact hfresh t ht
    have hev : ∀ x ∈ ins.opds, ev σ' x = ev τ x := fun x hx => ev_congr fun t ht => (hτ t (AOper.reads_ins (o := ⟨o.dst, g, ins⟩) hx ht)).symm
    have closed' : ∀ j, (listed.setIfInBounds i true).getD j false = true → ∀ q ∈ preOf pre j, (listed.setIfInBounds i true).getD q false = true := fun j hj q hq => by
      rw [getD_set hsz] at hj ⊢
      split
      · rfl
      · split at hj
        · rename_i e; subst e; exact hi3 q hq
        · exact I'.closed j hj q hq
    -- the wish of a guard
    have wish : ∀ {t want b}, g = some (t, want) → guardIs (σ' t) want b → Region.wanted o (yielded ops a.tmps) = b := fun {t want b} e hb => by
      subst e
      exact guard_sound T hg (by rw [hτ t (AOper.reads_guard (o := ⟨o.dst, some (t, want), ins⟩) rfl)]; exact hb)
    unfold wpOp
    rw [ho]
    simp only
    by_cases hD : i ∈ D'
    · -- taken ahead
      obtain ⟨o', ho', ⟨op, e1, hq, hdel⟩, hsolo⟩ := I'.del i hD hi2
      rw [hao] at ho'; cases ho'
      simp only at e1 hdel; subst e1
      have next : ∀ c, (∀ d, o.dst = some d → VRel m (σ' d) c) → wpAny P .any ops (LiftE P n m0 Q) fuel (listed.setIfInBounds i true) (a.put o.dst c) w := fun c hcv => by
        refine ih hp' hw' ⟨by simpa using I'.size, fun j hj => ?_, I'.dlt, I'.ord, closed', ?_, ?_, fun t ht => ?_, I'.heap, fun j hj hb => ?_⟩ hm (by omega)
        · rw [getD_set hsz] at hj
          split at hj
          · rename_i e; subst e; exact hD
          · exact I'.sub j hj
        · cases o.dst <;> exact I'.defers
        · cases o.dst <;> simp [Act.put, I'.asize]
        · cases hdst : o.dst with
          | none =>
            refine I'.vals t fun j hj oj h1 h2 => ?_
            have := ht j hj oj h1 h2
            rw [getD_set hsz] at this
            split at this
            · rename_i e; subst e; rw [hao] at h1; cases h1; simp [hdst] at h2
            · exact this
          | some d =>
            have hlt := hd d hdst
            show VRel m (σ' t) ((a.tmps.setIfInBounds d c).getD t undef)
            by_cases htd : t = d
            · subst htd
              have : (a.tmps.setIfInBounds t c).getD t undef = c := by simp [Array.getD, I'.asize, hlt]
              rw [this]; exact hcv t hdst
            · have : (a.tmps.setIfInBounds d c).getD t undef = a.tmps.getD t undef := by
                simp only [Array.getD_eq_getD_getElem?, Array.getElem?_setIfInBounds_ne (Ne.symm htd)]
              rw [this]
              refine I'.vals t fun j hj oj h1 h2 => ?_
              have := ht j hj oj h1 h2
              rw [getD_set hsz] at this
              split at this
              · rename_i e; subst e; rw [hao] at h1; cases h1; simp [hdst] at h2; exact absurd h2.symm htd
              · exact this
        · rw [getD_set hsz] at hb
          split at hb
          · cases hb
          · exact I'.del j hj hb
      have runI : DelI σ' h ⟨o.dst, g, .op op⟩ op → o.wp P a w (wpAny P .any ops (LiftE P n m0 Q) fuel (listed.setIfInBounds i true)) (LiftE P n m0 Q) := by
        rintro ⟨v, x, y⟩
        have hcop : cOp P o = some op := by
          unfold cInstr at hins
          split at hins
          · split at hins <;> cases hins
          · cases hins
          · cases hc' : cOp P o with
            | none => simp [hc'] at hins
            | some op' => simp [hc'] at hins; subst hins; rfl
        obtain ⟨c, h3, h4⟩ := quiet_sound I'.heap hcop hq (fun x => T.ev x) (x.congr hev)
        unfold Oper.wp; rw [h3]
        exact next c fun d e => by rw [y d e]; exact h4
      cases g with
      | none =>
        rw [if_pos (guard_none hg)]
        exact .inl (runI hdel)
      | some tw =>
        obtain ⟨t, want⟩ := tw
        obtain ⟨b, b1, b2, b3⟩ := hdel
        rw [wish rfl b1]
        cases b with
        | true => rw [if_pos rfl]; exact .inl (runI (b2 rfl))
        | false =>
          rw [if_neg (by simp)]
          exact next undef fun d e => by rw [b3 rfl d e]; exact .undef
    · -- its turn
      have hav : i ∈ (List.range l.length).filter (avail pre D') := List.mem_filter.2 ⟨List.mem_range.2 (by omega), avail_spec.2 ⟨hD, fun j hj => I'.sub j (hi3 j hj)⟩⟩
      simp only [planGo, hf] at hp'
      have ⟨q, r, hes⟩ : ∃ q r, (List.range l.length).filter (avail pre D') = q :: r := by
        cases he : (List.range l.length).filter (avail pre D') with
        | nil => rw [he] at hav; simp at hav
        | cons q r => exact ⟨q, r, rfl⟩
      rw [hes] at hp' hav
      simp only at hp'
      obtain ⟨o', p2, r2, z1, z2, z3⟩ := alt_get hp' hw' hav
      rw [hao] at z1; cases z1
      unfold wpPlan at z3
      have z3 := z3.1
      simp only at z3
      have next : ∀ {m' : Emb} {h' : AH} {w' : World} {v : AV} {c : Value}, m.le m' → HRel P m' h' w' → VRel m' v c → (h' = h ∨ chkAll σ' h' (chkOf l pre D' i)) → wpPlan P p2 (updO σ' o.dst v) h' (Q .normal) → wpAny P .any ops (LiftE P n m0 Q) fuel (listed.setIfInBounds i true) (a.put o.dst c) w' := fun {m' h' w' v c} k1 k2 k3 k4 k5 => by
        refine ih z2 k5 ⟨by simpa using I'.size, fun j hj => ?_, fun j hj => ?_, ⟨fun j hj => I'.sub j (hi3 j hj), I'.ord⟩, closed', ?_, ?_, fun t ht => ?_, k2, fun j hj hb => ?_⟩ (hm.trans k1) (by omega)
        · rw [getD_set hsz] at hj
          split at hj
          · rename_i e; subst e; simp
          · exact List.mem_cons_of_mem _ (I'.sub j hj)
        · rcases List.mem_cons.1 hj with rfl | hj
          · omega
          · exact I'.dlt j hj
        · cases o.dst <;> exact I'.defers
        · cases o.dst <;> simp [Act.put, I'.asize]
        · have old : o.dst ≠ some t → VRel m (σ' t) (a.tmps.getD t undef) := fun hne => I'.vals t fun j hj oj h1 h2 => by
            have := ht j (List.mem_cons_of_mem _ hj) oj h1 h2
            rw [getD_set hsz] at this
            split at this
            · rename_i e; subst e; exact absurd hj hD
            · exact this
          cases hdst : o.dst with
          | none => exact (old (by rw [hdst]; simp)).mono k1
          | some d =>
            have hlt := hd d hdst
            show VRel m' (if t = d then v else σ' t) ((a.tmps.setIfInBounds d c).getD t undef)
            by_cases htd : t = d
            · subst htd
              have : (a.tmps.setIfInBounds t c).getD t undef = c := by simp [Array.getD, I'.asize, hlt]
              rw [if_pos rfl, this]; exact k3
            · have : (a.tmps.setIfInBounds d c).getD t undef = a.tmps.getD t undef := by
                simp only [Array.getD_eq_getD_getElem?, Array.getElem?_setIfInBounds_ne (Ne.symm htd)]
              rw [if_neg htd, this]
              exact (old (by rw [hdst]; simp [Ne.symm htd])).mono k1
        · rw [getD_set hsz] at hb
          split at hb
          · cases hb
          · rename_i hji
            rcases List.mem_cons.1 hj with rfl | hj
            · exact absurd rfl hji
            · obtain ⟨oj, c1, c2, c3⟩ := I'.del j hj hb
              obtain ⟨x1, x2⟩ := keep_del hok I'.ord hao c1 hj hD (fun t e ht => by
                rcases (drawOk_spec hok c1 hao e).1 ht with h5 | h5
                · exact h5
                · have := hi3 j h5; rw [hb] at this; cases this) (σ := σ') (v := v)
              refine ⟨oj, c1, c2.keep x1 x2 fun hlk => k4.imp id fun hchk => chkAll_mem hchk oj ?_, c3⟩
              unfold chkOf
              refine List.mem_filterMap.2 ⟨j, hj, ?_⟩
              rw [c1]
              simp only [hlk, Bool.true_and]
              rw [if_pos]
              simp only [Bool.not_eq_true']
              cases hcl : (pclos pre 3 (preOf pre i)).contains j with
              | false => rfl
              | true =>
                have := pclos_sub (S := fun i => listed.getD i false = true) I'.closed 3 (preOf pre i) hi3 j (by simpa using hcl)
                rw [hb] at this; cases this
      have runI : wpI P (ev σ') h (fun v h' => chkAll σ' h' (chkOf l pre D' i) ∧ wpPlan P p2 (updO σ' o.dst v) h' (Q .normal)) ins → o.wp P a w (wpAny P .any ops (LiftE P n m0 Q) fuel (listed.setIfInBounds i true)) (LiftE P n m0 Q) := fun hw =>
        instr_sound T I'.heap hd hins (wpI_congr hev hw) fun m' v h' c w' g1 g2 g3 g4 g5 => next g1 g2 g3 (.inr g4.1) g4.2
      cases g with
      | none =>
        rw [if_pos (guard_none hg)]
        exact .inl (runI z3)
      | some tw =>
        obtain ⟨t, want⟩ := tw
        obtain ⟨b, hgi, z3, z4⟩ := z3
        rw [wish rfl hgi]
        cases b with
        | true => rw [if_pos rfl]; exact .inl (runI (z3 rfl))
        | false =>
          rw [if_neg (by simp)]
          exact next (.refl m) I'.heap .undef (.inl rfl) (z4 rfl)

theorem draw_sound (hm : P.follows .mixedOrders = true) {id : Nat} {p : Plan} {Q : Exit → Env → AH → Prop} {m : Emb} {σ : Env} {h : AH} {a : Act} {w : World} (hl : cOpers P n ops.toList ops.toList = some l) (hp : planOf l (ops.toList.map cPre) = some p)
    (T : TRel n m σ a) (H : HRel P m h w) (hw : wpPlan P p σ h (Q .normal)) : (Code.region id ops true).wp P (LiftE P n m Q) a w := by
  unfold planOf at hp
  split at hp
  · rename_i hok
    refine wp_region_any hm (plan_sound hok rfl hl ops.size hp hw ⟨?_, fun i hi => ?_, fun i hi => by simp at hi, trivial, fun i hi => ?_, T.defers, T.size, fun t _ => T.vals t, H.drawn _, fun i hi => by simp at hi⟩ (.refl m) ?_)
    · simp [(cOpers_get hl).1]
    · simp [Array.getD_eq_getD_getElem?, Array.getElem?_replicate] at hi
      split at hi <;> simp at hi
    · simp [Array.getD_eq_getD_getElem?, Array.getElem?_replicate] at hi
      split at hi <;> simp at hi
    · simp
  · cases hp

end Gls
