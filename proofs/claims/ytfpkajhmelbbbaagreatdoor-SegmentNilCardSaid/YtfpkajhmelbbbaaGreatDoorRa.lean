/- The runner's own answers for functions of Go's library. No condition. -/
import Derived.Test.YtfpkajhmelbbbaaGreatDoorBb
import Derived.Test.YtfpkajhmelbbbaaGreatDoorSa
import Derived.Test.YtfpkajhmelbbbaaGreatDoorFT
import Derived.Test.YtfpkajhmelbbbaaGreatDoorHs
import Derived.Test.YtfpkajhmelbbbaaGreatDoorHc
set_option linter.unusedVariables false
set_option linter.unusedSimpArgs false
namespace Gls
open Go Go.Proofs

def spCheck (vs : List AV) (h : CH) : Option (AV × CH) := match vs with
  | [.ptr r] => match h.arr r.ty r.id with
    | some es => match es[r.idx]? with
      | some (.agg [a, buf]) => if r.ty = 99 ∧ r.off = 0 ∧ (beqA 2 a .nilp || beqA 2 a (.ptr r)) = true then some (.tup [], h.setArr r.ty r.id (es.set r.idx (.agg [.ptr r, buf]))) else none
      | _ => none
    | none => none
  | _ => none
def spStr (vs : List AV) (h : CH) : Option (AV × CH) := match vs with
  | [.ptr r] => match h.arr r.ty r.id with
    | some es => match es[r.idx]? with
      | some (.agg [_, .slc q n]) => match h.arr q.ty q.id with
        | some xs => match bytesOf ((xs.drop q.idx).take n) with
          | some l => if (r.ty = 99 ∧ r.off = 0 ∧ q.ty = 5 ∧ q.off = 0) ∧ (q.idx + n ≤ xs.length ∧ l.length = n ∧ 0 < n ∧ n ≤ 9223372036854775807) ∧ all2 (beqA 1) ((xs.drop q.idx).take n) (bytesV l) = true then some (.str l, h.delArr q.id) else none
          | none => none
        | none => none
      | _ => none
    | none => none
  | _ => none
def spItoa (vs : List AV) (h : CH) : Option (AV × CH) := match vs with
  | [.int .i64 n] => if -9223372036854775808 ≤ n ∧ n ≤ 9223372036854775807 then some (.str (itoaF n), h) else none
  | _ => none
def spZero (vs : List AV) (h : CH) : Option (AV × CH) := match vs with
  | [.str s, .str o, .str n] => if o = [0] ∧ n = [0, 255] ∧ s.length < 4294967281 then some (.str (zesc s), h) else none
  | _ => none
def spCmp (vs : List AV) (h : CH) : Option (AV × CH) := match vs with
  | [.str a, .str b] => some (.int .i64 (Lib.compareBytes a b), h)
  | _ => none
def spSum (vs : List AV) (h : CH) : Option (AV × CH) := match vs with
  | [.str s] => if s.length ≤ 2 ^ 40 then some (.int .u32 (sumN s), h) else none
  | _ => none
def intsOf : List AV → Option (List Int)
  | [] => some []
  | .int .i64 n :: l => if -9223372036854775808 ≤ n ∧ n ≤ 9223372036854775807 then (intsOf l).map (n :: ·) else none
  | _ => none
def spNums (vs : List AV) (h : CH) : Option (AV × CH) := match vs with
  | [.nils] => some (.str [], h)
  | [.vals k l] => if k = 1 then match intsOf l with
    | some l => if l.length ≤ 2 ^ 32 then some (.str (numsL l), h) else none
    | none => none else none
  | [.slc r n] => match h.arr r.ty r.id with
    | some es => match intsOf ((es.drop r.idx).take n) with
      | some l => if l.length ≤ 2 ^ 32 ∧ r.ty = 3 ∧ r.off = 0 ∧ r.idx + n ≤ es.length then some (.str (numsL l), h) else none
      | none => none
    | none => none
  | _ => none
abbrev Sp := List AV → CH → Option (AV × CH)
def spFind (f : Nat) (vs : List AV) (h : CH) : List (Nat × Sp) → Option (AV × CH)
  | [] => none
  | (g, sp) :: l => match Nat.beq f g with
    | true => sp vs h
    | false => spFind f vs h l
def SpOk (f : Nat) (sp : List AV → CH → Option (AV × CH)) : Prop := ∀ vs h p, sp vs h = some p → ACalls Tryz.prog f vs h.abs fun v' h' => v' = p.1 ∧ h' = p.2.abs

theorem spCheck_ok : SpOk 69 spCheck := by
  intro vs h p e
  unfold spCheck at e
  split at e
  · rename_i r
    split at e
    · rename_i es h1
      split at e
      · rename_i a buf h2
        split at e
        · rename_i hc
          cases e
          obtain ⟨c1, c2, c3⟩ := hc
          rw [Bool.or_eq_true] at c3
          have := copyCheck_ok h.abs r es a buf c1 c2 h1 h2 (c3.imp beqA_eq beqA_eq)
          simp only
          rw [CH.abs_setArr h1]; exact this
        · cases e
      · cases e
    · cases e
  · cases e
theorem spStr_ok : SpOk 44 spStr := by
  intro vs h p e
  unfold spStr at e
  split at e
  · rename_i r
    split at e
    · rename_i es h1
      split at e
      · rename_i a q n h2
        split at e
        · rename_i xs h3
          split at e
          · rename_i l h4
            split at e
            · rename_i hc
              cases e
              obtain ⟨⟨c1, c2, c3, c4⟩, ⟨c5, rfl, c6, c7⟩, c8⟩ := hc
              have := BString_ok h.abs r q es xs a l c1 c2 h1 h2 c3 c4 h3 c5 (all2_eq (fun _ _ => beqA_eq) c8) (by intro e; rw [e] at c6; simp at c6) c7
              simp only
              rw [CH.abs_delArr h3]; exact this
            · cases e
          · cases e
        · cases e
      · cases e
    · cases e
  · cases e
theorem spItoa_ok : SpOk 151 spItoa := by
  intro vs h p e
  unfold spItoa at e
  split at e
  · split at e
    · rename_i hc; cases e; simp only; rw [itoaF_eq hc.1 hc.2]; exact Itoa_ok h.abs _ hc.1 hc.2
    · cases e
  · cases e
theorem spZero_ok : SpOk 71 spZero := by
  intro vs h p e
  unfold spZero at e
  split at e
  · split at e
    · rename_i hc; obtain ⟨rfl, rfl, hs⟩ := hc; cases e; exact Zero_ok h.abs _ hs
    · cases e
  · cases e
theorem spCmp_ok : SpOk 68 spCmp := by
  intro vs h p e
  unfold spCmp at e
  split at e
  · cases e; exact Compare_ok h.abs _ _
  · cases e

theorem spSum_ok : SpOk 77 spSum := by
  intro vs h p e
  unfold spSum at e
  split at e
  · split at e
    · rename_i hs; cases e; exact (Sum_ok h.abs _ hs).clean .int
    · cases e
  · cases e
theorem intsOf_sound : ∀ {l : List AV} {r : List Int}, intsOf l = some r → l = intsV r ∧ ∀ n ∈ r, inI64 n := by
  intro l
  induction l with
  | nil => intro r e; cases e; exact ⟨rfl, fun n h => by cases h⟩
  | cons a l ih =>
    intro r e
    unfold intsOf at e
    split at e
    · rename_i x; cases x
    · rename_i n l' x
      cases x
      split at e
      · rename_i hn
        obtain ⟨r', hr, rfl⟩ := Option.map_eq_some_iff.1 e
        obtain ⟨h1, h2⟩ := ih hr
        refine ⟨by rw [h1]; rfl, fun n hn' => ?_⟩
        rcases List.mem_cons.1 hn' with rfl | hn'
        · exact hn
        · exact h2 n hn'
      · cases e
    · cases e
theorem spNums_ok : SpOk 39 spNums := by
  intro vs h p e
  unfold spNums at e
  split at e
  · cases e; exact (Nums_ok h.abs .nils [] (by simp) (by simp) .nils).clean .str
  · rename_i k l
    split at e
    · rename_i hk
      subst hk
      split at e
      · rename_i r hr
        obtain ⟨h1, h2⟩ := intsOf_sound hr
        split at e
        · rename_i hl; cases e; subst h1; exact (Nums_ok h.abs _ r h2 hl .vals).clean .str
        · cases e
      · cases e
    · cases e
  · rename_i q n
    split at e
    · rename_i es he
      split at e
      · rename_i r hr
        obtain ⟨h1, h2⟩ := intsOf_sound hr
        split at e
        · rename_i hl
          obtain ⟨l1, l2, l3, l4⟩ := hl
          cases e
          refine (Nums_ok h.abs _ r h2 l1 ?_).clean .str
          rw [← h1]
          exact Lst.slc l2 l3 (by rw [← l2]; exact he) l4
        · cases e
      · cases e
    · cases e
  · cases e

def specL : List (Nat × Sp) := [(39, spNums), (69, spCheck), (44, spStr), (151, spItoa), (71, spZero), (77, spSum), (68, spCmp)]
def specs (f : Nat) (vs : List AV) (h : CH) : Option (AV × CH) := spFind f vs h specL
def SpsOk (l : List (Nat × Sp)) : Prop := ∀ p ∈ l, SpOk p.1 p.2 ∧ enters Tryz.prog p.1 = true
theorem spFind_ok {l : List (Nat × Sp)} (H : SpsOk l) : SOk Tryz.prog fun f vs h => spFind f vs h l := by
  intro f vs h p e
  induction l with
  | nil => cases e
  | cons a l ih =>
    obtain ⟨g, sp⟩ := a
    simp only [spFind] at e
    split at e
    · rename_i hf
      rw [Nat.eq_of_beq_eq_true hf]
      obtain ⟨h1, h2⟩ := H _ (List.mem_cons_self ..)
      exact ⟨h1 vs h p e, h2⟩
    · exact ih (fun p hp => H p (List.mem_cons_of_mem _ hp)) e
theorem SpsOk.nil : SpsOk [] := fun p hp => by cases hp
theorem SpsOk.cons {f : Nat} {sp : Sp} {l : List (Nat × Sp)} (h1 : SpOk f sp) (h2 : enters Tryz.prog f = true) (H : SpsOk l) : SpsOk ((f, sp) :: l) := fun p hp => by
  rcases List.mem_cons.1 hp with rfl | hp
  · exact ⟨h1, h2⟩
  · exact H p hp
theorem specL_ok : SpsOk specL := .cons spNums_ok (by kernel_rfl) (.cons spCheck_ok (by kernel_rfl) (.cons spStr_ok (by kernel_rfl) (.cons spItoa_ok (by kernel_rfl) (.cons spZero_ok (by kernel_rfl) (.cons spSum_ok (by kernel_rfl) (.cons spCmp_ok (by kernel_rfl) .nil))))))
theorem specs_ok : SOk Tryz.prog specs := spFind_ok specL_ok

def isTrue (r : Rs (AV × CH)) : Bool := match r with
  | some l => l.all fun p => match p.1 with | .bool b => b | _ => false
  | none => false
/-- A closed call that answers yes. -/
theorem run_true {d f : Nat} (e : isTrue (callN FT specs d f [] CH.none) = true) (h : AH) : ACalls Tryz.prog f [] h fun v' h' => v' = .bool true ∧ h' = h := by
  refine ACalls.frame ?_ .bool .nil h
  rw [← none_abs]
  cases hr : callN FT specs d f [] CH.none with
  | none => rw [hr] at e; cases e
  | some l =>
    rw [hr] at e
    refine (callN_sound mixed FT_ok specs_ok d f [] CH.none l _ hr fun p hp => ?_).1
    have := List.all_eq_true.1 e p hp
    split at this
    · rename_i b hb; rw [hb, this]
    · cases this
end Gls
