/- The runner: values and memories held against each other, up to the numbers of new objects. No condition. -/
import Derived.Test.YtfpkajhmelbbbaaGreatDoorEb
import Derived.Test.YtfpkajhmelbbbaaGreatDoorEc
set_option linter.unusedVariables false
set_option linter.unusedSimpArgs false
namespace Gls
open Go
variable {P : Program} {n : Nat}

def ab (a b : Bool) : Bool := match a with
  | true => b
  | false => false
theorem ab_iff {a b : Bool} : ab a b = true ↔ a = true ∧ b = true := by cases a <;> simp [ab]
/-- Are two lists alike, thing by thing? -/
def all2 {α : Type} (f : α → α → Bool) : List α → List α → Bool
  | [], [] => true
  | a :: l, b :: r => ab (f a b) (all2 f l r)
  | _, _ => false
theorem all2_eq {α : Type} {f : α → α → Bool} (hf : ∀ a b, f a b = true → a = b) : ∀ {l r : List α}, all2 f l r = true → l = r := by
  intro l
  induction l with
  | nil => intro r H; cases r with | nil => rfl | cons b r => cases H
  | cons a l ih =>
    intro r H
    cases r with
    | nil => cases H
    | cons b r => obtain ⟨h1, h2⟩ := ab_iff.1 (show ab (f a b) (all2 f l r) = true from H); rw [hf _ _ h1, ih h2]
theorem all2_len {α : Type} {f : α → α → Bool} : ∀ {l r : List α}, all2 f l r = true → l.length = r.length := by
  intro l
  induction l with
  | nil => intro r H; cases r with | nil => rfl | cons b r => cases H
  | cons a l ih =>
    intro r H
    cases r with
    | nil => cases H
    | cons b r => obtain ⟨h1, h2⟩ := ab_iff.1 (show ab (f a b) (all2 f l r) = true from H); simp [ih h2]
theorem all2_get {α : Type} {f : α → α → Bool} : ∀ {l r : List α}, all2 f l r = true → ∀ (i : Nat) (a b : α), l[i]? = some a → r[i]? = some b → f a b = true := by
  intro l
  induction l with
  | nil => intro r H i a b e; simp at e
  | cons a l ih =>
    intro r H i x y e1 e2
    cases r with
    | nil => cases H
    | cons b r =>
      obtain ⟨h1, h2⟩ := ab_iff.1 (show ab (f a b) (all2 f l r) = true from H)
      cases i with
      | zero => simp at e1 e2; subst e1; subst e2; exact h1
      | succ i => exact ih h2 i x y (by simpa using e1) (by simpa using e2)
theorem all2_get' {α : Type} {f : α → α → Bool} {l r : List α} (H : all2 f l r = true) {i : Nat} {a : α} (e : l[i]? = some a) : ∃ b, r[i]? = some b ∧ f a b = true := by
  have hlt : i < r.length := by rw [← all2_len H]; exact (List.getElem?_eq_some_iff.1 e).1
  exact ⟨_, List.getElem?_eq_getElem hlt, all2_get H i _ _ e (List.getElem?_eq_getElem hlt)⟩
theorem all2_app {α : Type} {f : α → α → Bool} : ∀ {a b c d : List α}, all2 f a b = true → all2 f c d = true → all2 f (a ++ c) (b ++ d) = true := by
  intro a
  induction a with
  | nil => intro b c d H K; cases b with | nil => exact K | cons b r => cases H
  | cons x a ih =>
    intro b c d H K
    cases b with
    | nil => cases H
    | cons y b =>
      obtain ⟨h1, h2⟩ := ab_iff.1 (show ab (f x y) (all2 f a b) = true from H)
      exact ab_iff.2 ⟨h1, ih h2 K⟩
def refB (a b : Ref) : Bool := decide (a.ty = b.ty ∧ a.id = b.id ∧ a.idx = b.idx ∧ a.off = b.off)
theorem refB_eq {a b : Ref} (h : refB a b = true) : a = b := by
  obtain ⟨h1, h2, h3, h4⟩ := of_decide_eq_true h
  cases a; cases b; simp at h1 h2 h3 h4; simp [*]
def beqA : Nat → AV → AV → Bool
  | 0, _, _ => false
  | f + 1, a, b => match a, b with
    | .any, .any => true
    | .bool a, .bool b => decide (a = b)
    | .int k a, .int k' b => decide (k = k' ∧ a = b)
    | .str a, .str b => decide (a = b)
    | .nilp, .nilp => true
    | .ptr r, .ptr r' => refB r r'
    | .iptr e o, .iptr e' o' => ab (decide (o = o')) (beqA f e e')
    | .nils, .nils => true
    | .slc r n, .slc r' n' => ab (decide (n = n')) (refB r r')
    | .vals s l, .vals s' l' => ab (decide (s = s')) (all2 (beqA f) l l')
    | .nilm, .nilm => true
    | .map t i, .map t' i' => decide (t = t' ∧ i = i')
    | .imap l, .imap l' => all2 (fun p q => ab (beqA f p.1 q.1) (beqA f p.2 q.2)) l l'
    | .itr i, .itr i' => decide (i = i')
    | .nilf, .nilf => true
    | .iface t v, .iface t' v' => ab (decide (t = t')) (beqA f v v')
    | .nili, .nili => true
    | .agg l, .agg l' => all2 (beqA f) l l'
    | .tup l, .tup l' => all2 (beqA f) l l'
    | _, _ => false
theorem beqA_eq : ∀ {f : Nat} {a b : AV}, beqA f a b = true → a = b := by
  intro f
  induction f with
  | zero => intro a b H; cases H
  | succ f ih =>
    intro a b H
    have ih2 : ∀ p q : AV × AV, ab (beqA f p.1 q.1) (beqA f p.2 q.2) = true → p = q := fun p q H => by
      obtain ⟨h1, h2⟩ := ab_iff.1 H
      exact Prod.ext (ih h1) (ih h2)
    unfold beqA at H
    split at H
    · rfl
    · rw [of_decide_eq_true H]
    · obtain ⟨h1, h2⟩ := of_decide_eq_true H; rw [h1, h2]
    · rw [of_decide_eq_true H]
    · rfl
    · rw [refB_eq H]
    · obtain ⟨h1, h2⟩ := ab_iff.1 H; rw [of_decide_eq_true h1, ih h2]
    · rfl
    · obtain ⟨h1, h2⟩ := ab_iff.1 H; rw [of_decide_eq_true h1, refB_eq h2]
    · obtain ⟨h1, h2⟩ := ab_iff.1 H; rw [of_decide_eq_true h1, all2_eq (fun _ _ => ih) h2]
    · rfl
    · obtain ⟨h1, h2⟩ := of_decide_eq_true H; rw [h1, h2]
    · rw [all2_eq ih2 H]
    · rw [of_decide_eq_true H]
    · rfl
    · obtain ⟨h1, h2⟩ := ab_iff.1 H; rw [of_decide_eq_true h1, ih h2]
    · rfl
    · rw [all2_eq (fun _ _ => ih) H]
    · rw [all2_eq (fun _ _ => ih) H]
    · cases H


/-- A new numbering: what a number was called before. -/
def qa (q : List (Nat × Nat)) (j : Nat) : Nat := match q with
  | [] => j
  | (a, b) :: q => match Nat.beq j a with
    | true => b
    | false => qa q j
def Emb.ren (m : Emb) (q : Nat → Nat) : Emb := { m with loc := fun t j => m.loc t (q j), mloc := fun t j => m.mloc t (q j), iloc := fun j => m.iloc (q j) }

/-- Is the first value the second one, newly numbered? -/
def eqA (q : List (Nat × Nat)) : Nat → AV → AV → Bool
  | 0, _, _ => false
  | f + 1, a, b => match a, b with
    | .any, _ => true
    | .bool a, .bool b => decide (a = b)
    | .int k a, .int k' b => decide (k = k' ∧ a = b)
    | .str a, .str b => decide (a = b)
    | .nilp, .nilp => true
    | .ptr r, .ptr r' => decide (r.ty = r'.ty ∧ qa q r.id = r'.id ∧ r.idx = r'.idx ∧ r.off = r'.off)
    | .iptr e o, .iptr e' o' => ab (decide (o = o')) (all2 (eqA q f) e.cells e'.cells)
    | .nils, .nils => true
    | .slc r n, .slc r' n' => decide (n = n' ∧ r.ty = r'.ty ∧ qa q r.id = r'.id ∧ r.idx = r'.idx ∧ r.off = r'.off)
    | .vals s l, .vals s' l' => ab (decide (s = s' ∧ l.length = l'.length ∧ ∀ e ∈ l, e.cells.length = s)) (all2 (eqA q f) (flatC l) (flatC l'))
    | .nilm, .nilm => true
    | .map t i, .map t' i' => decide (t = t' ∧ qa q i = i')
    | .imap l, .imap l' => ab (all2 (eqA q f) (l.map (·.1)) (l'.map (·.1))) (all2 (eqA q f) (l.map (·.2)) (l'.map (·.2)))
    | .itr i, .itr i' => decide (qa q i = i')
    | .fn (.func g) l l2, .fn (.func g') l' l2' => ab (decide (g = g')) (ab (all2 (eqA q f) l l') (all2 (eqA q f) l2 l2'))
    | .nilf, .nilf => true
    | .iface t v, .iface t' v' => ab (decide (t = t')) (eqA q f v v')
    | .nili, .nili => true
    | .agg l, .agg l' => all2 (eqA q f) l l'
    | .tup l, .tup l' => all2 (eqA q f) l l'
    | _, _ => false

section
variable {m : Emb} {q : List (Nat × Nat)}
theorem eqA_sound : ∀ {f : Nat} {a b : AV}, eqA q f a b = true → ∀ {c : Value}, VRel m b c → VRel (m.ren (qa q)) a c := by
  intro f
  induction f with
  | zero => intro a b H; cases H
  | succ f ih =>
    intro a b H c hb
    unfold eqA at H
    split at H
    · exact .any c
    · rw [of_decide_eq_true H]; cases hb; exact .bool _
    · obtain ⟨h1, h2⟩ := of_decide_eq_true H; subst h1; subst h2; cases hb; exact .int _ _
    · rw [of_decide_eq_true H]; cases hb; exact .str _
    · cases hb; exact .nilp
    · rename_i r r'
      obtain ⟨h1, h2, h3, h4⟩ := of_decide_eq_true H
      cases hb with
      | ptr _ L e =>
        have e1 : L.addr r' = L.addr r := by simp [Loc.addr, h3, h4]
        rw [e1]
        exact .ptr r L (by show m.loc r.ty (qa q r.id) = _; rw [h1, h2]; exact e)
    · rename_i e o e' o'
      obtain ⟨h1, h2⟩ := ab_iff.1 H
      have h1 := of_decide_eq_true h1; subst h1
      cases hb with
      | iptr _ _ b o f g1 g2 => exact .iptr e _ b o f (fun j hj => g1 j (by rw [← all2_len h2]; exact hj)) fun j v hv => (by obtain ⟨v', h3, h4⟩ := all2_get' h2 hv; exact ih h4 (g2 j v' h3))
    · cases hb; exact .nils _
    · rename_i r n r' n'
      obtain ⟨h0, h1, h2, h3, h4⟩ := of_decide_eq_true H
      subst h0
      cases hb with
      | slc _ _ L c e g1 g2 g3 g4 g5 g6 =>
        have e1 : L.addr r' = L.addr r := by simp [Loc.addr, h3, h4]
        rw [e1]
        exact .slc r n L c (by show m.loc r.ty (qa q r.id) = _; rw [h1, h2]; exact e) g1 g2 (by rw [h4]; exact g3) (by rw [h3]; exact g4) (by rw [h3]; exact g5) g6
      | slc0 _ L a e g1 => exact .slc0 r L a (by show m.loc r.ty (qa q r.id) = _; rw [h1, h2]; exact e) (by rw [h3]; exact g1)
    · rename_i s l s' l'
      obtain ⟨h1, h2⟩ := ab_iff.1 H
      obtain ⟨rfl, h3, h4⟩ := of_decide_eq_true h1
      have h5 := all2_len h2
      cases hb with
      | vals0 _ a c =>
        have : l = [] := by simpa using h3
        subst this; exact .vals0 s a c
      | vals _ _ b o c f g1 g2 g3 g4 g5 g6 =>
        rw [← h3]
        exact .vals s l b o c f (by omega) g2 (by omega) h4 (fun k hk => g5 k (by omega)) fun k v hv => (by obtain ⟨v', h6, h7⟩ := all2_get' h2 hv; exact ih h7 (g6 k v' h6))
    · cases hb; exact .nilm
    · obtain ⟨h1, h2⟩ := of_decide_eq_true H
      cases hb with | map _ _ r e => exact .map _ _ r (by show m.mloc _ (qa q _) = _; rw [h1, h2]; exact e)
    · rename_i l l'
      obtain ⟨h1, h2⟩ := ab_iff.1 H
      have h5 := all2_len h1
      simp only [List.length_map] at h5
      cases hb with
      | imap _ r ces ck e g1 g2 g3 g4 =>
        have get : ∀ {i : Nat} {x : AV × AV}, l[i]? = some x → ∃ y, l'[i]? = some y := fun {i x} e => ⟨_, List.getElem?_eq_getElem (by rw [← h5]; exact (List.getElem?_eq_some_iff.1 e).1)⟩
        refine .imap l r ces ck e (by omega) (fun i x c hx hc => ?_) (fun i x c hx hc => ?_) g4
        · obtain ⟨y, hy⟩ := get hx
          exact ih (all2_get h1 i x.1 y.1 (by simp [hx]) (by simp [hy])) (g2 i y c hy hc)
        · obtain ⟨y, hy⟩ := get hx
          exact ih (all2_get h2 i x.2 y.2 (by simp [hx]) (by simp [hy])) (g3 i y c hy hc)
    · have h1 := of_decide_eq_true H
      cases hb with | itr _ r e => exact .itr _ r (by show m.iloc (qa q _) = _; rw [h1]; exact e)
    · obtain ⟨h1, h2⟩ := ab_iff.1 H
      obtain ⟨h2, h3⟩ := ab_iff.1 h2
      have h1 := of_decide_eq_true h1; subst h1
      cases hb with
      | fn _ _ _ a b g1 g2 g3 g4 => exact .fn _ _ _ a b ((all2_len h2).trans g1) ((all2_len h3).trans g2) (fun i v c hv hc => (by obtain ⟨v', h6, h7⟩ := all2_get' h2 hv; exact ih h7 (g3 i v' c h6 hc))) fun i v c hv hc => (by obtain ⟨v', h6, h7⟩ := all2_get' h3 hv; exact ih h7 (g4 i v' c h6 hc))
    · cases hb; exact .nilf
    · obtain ⟨h1, h2⟩ := ab_iff.1 H
      have h1 := of_decide_eq_true h1; subst h1
      cases hb with | iface _ _ c e => exact .iface _ _ _ (ih h2 e)
    · cases hb; exact .nili
    · cases hb with | agg _ a g1 g2 => exact .agg _ a ((all2_len H).trans g1) fun i v c hv hc => (by obtain ⟨v', h6, h7⟩ := all2_get' H hv; exact ih h7 (g2 i v' c h6 hc))
    · cases hb with | tup _ a g1 g2 => exact .tup _ a ((all2_len H).trans g1) fun i v c hv hc => (by obtain ⟨v', h6, h7⟩ := all2_get' H hv; exact ih h7 (g2 i v' c h6 hc))
    · cases H
end

/-- Objects, newly numbered. -/
def eqE (q : List (Nat × Nat)) (x y : AV) : Bool := ab (x.cells.all AV.noAgg) (all2 (eqA q 60) x.cells y.cells)
def eqO (q : List (Nat × Nat)) : Option CO → Option CO → Bool
  | none, _ => true
  | some (.arr t es), some (.arr t' es') => ab (decide (t = t')) (all2 (eqE q) es es')
  | some (.map t es), some (.map t' es') => ab (decide (t = t')) (ab (all2 (eqA q 60) (es.map (·.1)) (es'.map (·.1))) (all2 (eqA q 60) (es.map (·.2)) (es'.map (·.2))))
  | _, _ => false
/-- Has a tree things at numbers below n alone? -/
def Tr.under {α : Type} (n : Nat) : Nat → Nat → Tr α → Bool
  | _, _, .nil => true
  | a, b, .node l v r => ab (match v with | none => true | some _ => Nat.blt b n) (ab (Tr.under n (2 * a) (a + b) l) (Tr.under n (2 * a) (2 * a + b) r))
def Tr.all2 {α : Type} (g : α → α → Bool) : Tr α → Tr α → Bool
  | .nil, _ => true
  | .node l v r, .node l' v' r' => ab (match v, v' with | none, _ => true | some x, some y => g x y | _, _ => false) (ab (Tr.all2 g l l') (Tr.all2 g r r'))
  | .node _ _ _, .nil => false
theorem Tr.all2_get {α : Type} {g : α → α → Bool} : ∀ {t t' : Tr α}, Tr.all2 g t t' = true → ∀ j x, t.get j = some x → ∃ y, t'.get j = some y ∧ g x y = true := by
  intro t
  induction t with
  | nil => intro t' H j x e; cases e
  | node l v r ihl ihr =>
    intro t' H j x e
    cases t' with
    | nil => cases H
    | node l' v' r' =>
      obtain ⟨h1, h2⟩ := ab_iff.1 (show ab _ _ = true from H)
      obtain ⟨h2, h3⟩ := ab_iff.1 h2
      rw [Tr.get_node] at e ⊢
      split at e
      · rename_i h0
        rw [if_pos h0]
        subst e
        cases v' with
        | none => cases h1
        | some y => exact ⟨y, rfl, h1⟩
      · rename_i h0
        rw [if_neg h0]
        split at e
        · rename_i ho; rw [if_pos ho]; exact ihl h2 _ _ e
        · rename_i ho; rw [if_neg ho]; exact ihr h3 _ _ e
theorem Tr.under_get {α : Type} {n : Nat} : ∀ {t : Tr α} {a b : Nat}, Tr.under n a b t = true → ∀ j x, t.get j = some x → a * j + b < n := by
  intro t
  induction t with
  | nil => intro a b H j x e; cases e
  | node l v r ihl ihr =>
    intro a b H j x e
    obtain ⟨h1, h2⟩ := ab_iff.1 (show ab _ _ = true from H)
    obtain ⟨h2, h3⟩ := ab_iff.1 h2
    rw [Tr.get_node] at e
    split at e
    · rename_i h0; subst h0; subst e; have h5 : b + 1 ≤ n := Nat.le_of_ble_eq_true h1; rw [Nat.mul_zero]; omega
    · rename_i h0
      split at e
      · rename_i ho
        have := ihl h2 _ _ e
        have e2 : 2 * a * (j / 2) + (a + b) = a * j + b := by
          have : a * j = a * (2 * (j / 2) + 1) := by congr 1; omega
          rw [this, Nat.mul_add, ← Nat.mul_assoc, Nat.mul_comm a 2]; omega
        omega
      · rename_i ho
        have := ihr h3 _ _ e
        have e2 : 2 * a * (j / 2 - 1) + (2 * a + b) = a * j + b := by
          have : a * j = a * (2 * (j / 2 - 1) + 2) := by congr 1; omega
          rw [this, Nat.mul_add, ← Nat.mul_assoc, Nat.mul_comm a 2]; omega
        omega

/-- A numbering that is one to one, and leaves the numbers below k alone. -/
def okQ (k n : Nat) (q : List (Nat × Nat)) : Bool :=
  ab (decide (k ≤ n)) (ab (q.all fun p => decide (k ≤ p.1 ∧ p.1 < n)) ((List.range (n - k)).all fun a => ab (decide (k ≤ qa q (k + a) ∧ qa q (k + a) < n)) ((List.range (n - k)).all fun b => decide (a = b ∨ qa q (k + a) ≠ qa q (k + b)))))
theorem qa_out {q : List (Nat × Nat)} {j : Nat} (h : ∀ p ∈ q, p.1 ≠ j) : qa q j = j := by
  induction q with
  | nil => rfl
  | cons p q ih =>
    obtain ⟨a, b⟩ := p
    unfold qa
    split
    · rename_i hb; exact absurd (Nat.eq_of_beq_eq_true hb).symm (h (a, b) (List.mem_cons_self ..))
    · exact ih fun p hp => h p (List.mem_cons_of_mem _ hp)
structure QOk (k n : Nat) (q : Nat → Nat) : Prop where
  le : k ≤ n
  low : ∀ j, j < k → q j = j
  high : ∀ j, n ≤ j → q j = j
  mid : ∀ j, k ≤ j → j < n → k ≤ q j ∧ q j < n
  inj : ∀ i j, q i = q j → i = j
theorem okQ_sound {k n : Nat} {q : List (Nat × Nat)} (H : okQ k n q = true) : QOk k n (qa q) := by
  obtain ⟨h1, h2⟩ := ab_iff.1 H
  obtain ⟨h2, h3⟩ := ab_iff.1 h2
  have le := of_decide_eq_true h1
  have low : ∀ j, j < k → qa q j = j := fun j hj => qa_out fun p hp => by
    have := of_decide_eq_true (List.all_eq_true.1 h2 p hp); omega
  have high : ∀ j, n ≤ j → qa q j = j := fun j hj => qa_out fun p hp => by
    have := of_decide_eq_true (List.all_eq_true.1 h2 p hp); omega
  have each : ∀ j, k ≤ j → j < n → (k ≤ qa q j ∧ qa q j < n) ∧ ∀ i, k ≤ i → i < n → i = j ∨ qa q j ≠ qa q i := fun j a b => by
    have := List.all_eq_true.1 h3 (j - k) (List.mem_range.2 (by omega))
    obtain ⟨g1, g2⟩ := ab_iff.1 this
    have g1 := of_decide_eq_true g1
    rw [show k + (j - k) = j from by omega] at g1 g2
    refine ⟨g1, fun i c d => ?_⟩
    have := of_decide_eq_true (List.all_eq_true.1 g2 (i - k) (List.mem_range.2 (by omega)))
    rw [show k + (i - k) = i from by omega] at this
    rcases this with h | h
    · left; omega
    · right; exact h
  refine ⟨le, low, high, fun j a b => (each j a b).1, fun i j e => ?_⟩
  by_cases hi : k ≤ i ∧ i < n
  · by_cases hj : k ≤ j ∧ j < n
    · rcases (each j hj.1 hj.2).2 i hi.1 hi.2 with h | h
      · exact h
      · exact absurd e.symm h
    · have h1 := (each i hi.1 hi.2).1
      have h2 : qa q j = j := by
        by_cases h : j < k
        · exact low j h
        · exact high j (by omega)
      omega
  · have h1 : qa q i = i := by
      by_cases h : i < k
      · exact low i h
      · exact high i (by omega)
    by_cases hj : k ≤ j ∧ j < n
    · have h2 := (each j hj.1 hj.2).1
      omega
    · have h2 : qa q j = j := by
        by_cases h : j < k
        · exact low j h
        · exact high j (by omega)
      omega

/-- Is the first memory the second one, newly numbered? -/
def eqH (k : Nat) (q : List (Nat × Nat)) (h h' : CH) : Bool :=
  ab (decide (h.its.isEmpty = true ∧ h.next = h'.next)) (ab (okQ k h.next q) (ab (Tr.under h.next 1 0 h.objs) ((List.range h.next).all fun j => eqO q (h.objs.get j) (h'.objs.get (qa q j)))))

/-- Objects of numbers below k stay where they are. -/
structure Emb.leB (k : Nat) (m m' : Emb) : Prop where
  loc : ∀ t i L, i < k → m.loc t i = some L → m'.loc t i = some L
  mloc : ∀ t i L, i < k → m.mloc t i = some L → m'.mloc t i = some L
  iloc : ∀ i L, i < k → m.iloc i = some L → m'.iloc i = some L
  imm : ∀ b o, m.imm b = some o → m'.imm b = some o
  w0 : m'.w0 = m.w0
theorem Emb.leB.refl {k : Nat} (m : Emb) : m.leB k m := ⟨fun _ _ _ _ h => h, fun _ _ _ _ h => h, fun _ _ _ h => h, fun _ _ h => h, rfl⟩
theorem Emb.leB.trans {k : Nat} {a b c : Emb} (h : a.leB k b) (g : b.leB k c) : a.leB k c :=
  ⟨fun t i L l e => g.loc t i L l (h.loc t i L l e), fun t i L l e => g.mloc t i L l (h.mloc t i L l e), fun i L l e => g.iloc i L l (h.iloc i L l e), fun b o e => g.imm b o (h.imm b o e), g.w0.trans h.w0⟩
theorem Emb.le.toB {k : Nat} {m m' : Emb} (h : m.le m') : m.leB k m' := ⟨fun t i L _ e => h.loc t i L e, fun t i L _ e => h.mloc t i L e, fun i L _ e => h.iloc i L e, h.imm, h.w0⟩
theorem Emb.leB.full {P : Program} {m m' : Emb} {h : AH} {w : World} (R : HRel P m h w) (g : m.leB h.next m') : m.le m' := by
  obtain ⟨l1, l2, l3⟩ := R.locs
  exact ⟨fun t i L e => g.loc t i L (l1 _ _ _ e) e, fun t i L e => g.mloc t i L (l2 _ _ _ e) e, fun i L e => g.iloc i L (l3 _ _ e) e, g.imm, g.w0⟩

theorem flatC_all2 {q : List (Nat × Nat)} : ∀ {l r : List AV}, all2 (eqE q) l r = true → all2 (eqA q 60) (flatC l) (flatC r) = true := by
  intro l
  induction l with
  | nil => intro r H; cases r with | nil => rfl | cons b r => cases H
  | cons a l ih =>
    intro r H
    cases r with
    | nil => cases H
    | cons b r =>
      obtain ⟨h1, h2⟩ := ab_iff.1 (show ab (eqE q a b) (all2 (eqE q) l r) = true from H)
      exact all2_app (ab_iff.1 h1).2 (ih h2)

theorem eqH_sound {m : Emb} {w : World} {k : Nat} {q : List (Nat × Nat)} {h h' : CH} (H : eqH k q h h' = true) (R : HRel P m h'.abs w) : m.leB k (m.ren (qa q)) ∧ HRel P (m.ren (qa q)) h.abs w := by
  obtain ⟨h1, H⟩ := ab_iff.1 H
  obtain ⟨h2, H⟩ := ab_iff.1 H
  obtain ⟨h3, h4⟩ := ab_iff.1 H
  obtain ⟨hi, hn⟩ := of_decide_eq_true h1
  have hi : h.its = [] := by simpa using hi
  have Q := okQ_sound h2
  have obj : ∀ j o, h.objs.get j = some o → ∃ o', h'.objs.get (qa q j) = some o' ∧ eqO q (some o) (some o') = true := fun j o e => by
    have hj := Tr.under_get h3 j o e
    have := List.all_eq_true.1 h4 j (List.mem_range.2 (by omega))
    rw [e] at this
    cases ho : h'.objs.get (qa q j) with
    | none => rw [ho] at this; cases o <;> cases this
    | some o' => rw [ho] at this; exact ⟨o', rfl, this⟩
  have oarr : ∀ t j es, h.arr t j = some es → ∃ es', h'.arr t (qa q j) = some es' ∧ all2 (eqE q) es es' = true := fun t j es e => by
    obtain ⟨o', e1, e2⟩ := obj j _ (CH.arr_get e)
    cases o' with
    | map t' es' => cases e2
    | arr t' es' =>
      obtain ⟨g1, g2⟩ := ab_iff.1 (show ab _ _ = true from e2)
      have g1 := of_decide_eq_true g1; subst g1
      exact ⟨es', by rw [CH.arr_eq, e1]; simp, g2⟩
  have omap : ∀ t j es, h.map t j = some es → ∃ es', h'.map t (qa q j) = some es' ∧ all2 (eqA q 60) (es.map (·.1)) (es'.map (·.1)) = true ∧ all2 (eqA q 60) (es.map (·.2)) (es'.map (·.2)) = true := fun t j es e => by
    obtain ⟨o', e1, e2⟩ := obj j _ (CH.map_get e)
    cases o' with
    | arr t' es' => cases e2
    | map t' es' =>
      obtain ⟨g1, g2⟩ := ab_iff.1 (show ab _ _ = true from e2)
      have g1 := of_decide_eq_true g1; subst g1
      exact ⟨es', by rw [CH.map_eq, e1]; simp, ab_iff.1 g2⟩
  refine ⟨⟨fun t i L l e => by show m.loc t (qa q i) = _; rw [Q.low i l]; exact e, fun t i L l e => by show m.mloc t (qa q i) = _; rw [Q.low i l]; exact e, fun i L l e => by show m.iloc (qa q i) = _; rw [Q.low i l]; exact e, fun b o e => e, rfl⟩, ?_⟩
  refine { os := R.os, tape := R.tape, output := R.output, size := R.size, imm := R.imm, old := R.old, live := ?_, maps := ?_, itrs := ?_, apart := ?_, mapart := ?_, mlt := fun t i r e => R.mlt t _ r e, iapart := ?_, sized := fun t i L e => R.sized t _ L e, fresh := ?_, pre := R.pre }
  · intro t j es e
    obtain ⟨es', e1, e2⟩ := oarr t j es e
    obtain ⟨L, a, b⟩ := R.live t _ es' e1
    have hl := all2_len e2
    have hfl := flatC_all2 e2
    refine ⟨L, a, fun p => ?_, by rw [hl]; exact b.room, fun x hx => ?_, fun x u hx hu => ?_, b.pos, by rw [hl]; exact b.cnt, b.free⟩
    · obtain ⟨c, fr, x, y, z, g⟩ := b.cells p
      refine ⟨c, fr, x, y, z, fun k u hu => ?_⟩
      obtain ⟨u', h5, h6⟩ := all2_get' hfl hu
      obtain ⟨v, v1, v2⟩ := g k u' h5
      exact ⟨v, v1, eqA_sound h6 v2⟩
    · obtain ⟨i, hi, rfl⟩ := List.getElem_of_mem hx
      obtain ⟨y, hy, hxy⟩ := all2_get' e2 (List.getElem?_eq_getElem hi)
      rw [all2_len (ab_iff.1 hxy).2]; exact b.size y (List.mem_of_getElem? hy)
    · obtain ⟨i, hi, rfl⟩ := List.getElem_of_mem hx
      obtain ⟨y, hy, hxy⟩ := all2_get' e2 (List.getElem?_eq_getElem hi)
      exact List.all_eq_true.1 (ab_iff.1 hxy).1 u hu
  · intro t j es e
    obtain ⟨es', e1, e2, e3⟩ := omap t j es e
    obtain ⟨r, a, b⟩ := R.maps t _ es' e1
    have hl := all2_len e2
    simp only [List.length_map] at hl
    have get : ∀ {i : Nat} {x : AV × AV}, es[i]? = some x → ∃ y, es'[i]? = some y := fun {i x} e => ⟨_, List.getElem?_eq_getElem (by rw [← hl]; exact (List.getElem?_eq_some_iff.1 e).1)⟩
    obtain ⟨ces, ck, x1, x2, x3, x4, x5⟩ := b.ents
    refine ⟨r, a, ⟨ces, ck, x1, by omega, fun i x c hx hc => ?_, fun i x c hx hc => ?_, x5⟩, b.free⟩
    · obtain ⟨y, hy⟩ := get hx
      exact eqA_sound (all2_get e2 i x.1 y.1 (by simp [hx]) (by simp [hy])) (x3 i y c hy hc)
    · obtain ⟨y, hy⟩ := get hx
      exact eqA_sound (all2_get e3 i x.2 y.2 (by simp [hx]) (by simp [hy])) (x4 i y c hy hc)
  · intro i it e
    have : CH.look i h.its = some it := e
    rw [hi] at this; cases this
  · intro t i es t' i' es' L L' e e' g g' p p' hb
    obtain ⟨es1, e1, _⟩ := oarr t i es e
    obtain ⟨es2, e2, _⟩ := oarr t' i' es' e'
    obtain ⟨a, b⟩ := R.apart t _ es1 t' _ es2 L L' e1 e2 g g' p p' hb
    exact ⟨a, Q.inj _ _ b⟩
  · intro t i t' i' r e e'
    obtain ⟨a, b⟩ := R.mapart t _ t' _ r e e'
    exact ⟨a, Q.inj _ _ b⟩
  · intro i it i' it' r e
    have : CH.look i h.its = some it := e
    rw [hi] at this; cases this
  · intro t j hj
    have hj : h.next ≤ j := hj
    have : qa q j = j := Q.high j hj
    have h5 := R.fresh t j (by show h'.next ≤ j; omega)
    show m.loc t (qa q j) = none ∧ m.mloc t (qa q j) = none ∧ m.iloc (qa q j) = none
    rw [this]; exact h5
end Gls
