/- The operations that leave memory alone: what the view says of their answer holds of the model's. No condition. -/
import Derived.Test.YtfpkajhmelbbbaaGreatDoorGf
import Derived.Laws.StructEq
set_option linter.unusedVariables false
set_option linter.unusedSimpArgs false
namespace Gls
open Go
variable {P : Program} {m : Emb} {h : AH} {w : World}

theorem VRel.int_inv {k : IntKind} {n : Int} {c : Value} (h : VRel m (.int k n) c) : c = .int k n := by cases h; rfl
theorem VRel.bool_inv {b : Bool} {c : Value} (h : VRel m (.bool b) c) : c = .bool b := by cases h; rfl
theorem VRel.str_inv {s : List UInt8} {c : Value} (h : VRel m (.str s) c) : c = .string ⟨s.toArray⟩ := by cases h; rfl

theorem mk_size (l : List UInt8) : (ByteArray.mk l.toArray).size = l.length := by simp [ByteArray.size]
theorem mk_append (a b : List UInt8) : ByteArray.mk a.toArray ++ ByteArray.mk b.toArray = ⟨(a ++ b).toArray⟩ := by
  apply ByteArray.ext; simp
theorem mk_get (l : List UInt8) (i : Nat) : (ByteArray.mk l.toArray)[i]? = l[i]? := by
  by_cases hi : i < l.length
  · rw [ByteArray.getElem?_lt' _ _ (by rw [mk_size]; exact hi)]
    simp [hi]
    rfl
  · rw [ByteArray.getElem?_ge' _ _ (by rw [mk_size]; exact hi), List.getElem?_eq_none (by omega)]
theorem mk_beq (a b : List UInt8) : (ByteArray.mk a.toArray == ByteArray.mk b.toArray) = (a == b) := by
  have : (ByteArray.mk a.toArray == ByteArray.mk b.toArray) = (a.toArray == b.toArray) := rfl
  rw [this]; simp

theorem aBin_sound {op : BinOp} {x y v : AV} {cx cy : Value} {xt : Nat} (hx : VRel m x cx) (hy : VRel m y cy) (hb : aBin op x y (· = v)) :
    ∃ c, (binOp op xt cx cy).run P w = .ok c w ∧ VRel m v c := by
  unfold aBin at hb
  split at hb
  · rename_i k a k' b
    obtain rfl := hx.int_inv
    obtain rfl := hy.int_inv
    split at hb
    case h_1 => exact ⟨.int k (k.wrap (a * 2 ^ (min b.toNat k.bits))), by simp [binOp, Op.shift, show ¬ b < 0 by omega], hb.2 ▸ .int _ _⟩
    case h_2 => exact ⟨.int k (a.fdiv (2 ^ (min b.toNat k.bits))), by simp [binOp, Op.shift, show ¬ b < 0 by omega], hb.2 ▸ .int _ _⟩
    case h_6 => exact ⟨.int k (k.wrap (a.tdiv b)), by simp [binOp, Op.intDiv, hb.1, hb.2.1], hb.2.2 ▸ .int _ _⟩
    case h_7 => exact ⟨.int k (a.tmod b), by simp [binOp, Op.intDiv, hb.1, hb.2.1], hb.2.2 ▸ .int _ _⟩
    all_goals obtain ⟨rfl, hb⟩ := hb
    all_goals subst hb
    all_goals first | refine ⟨_, ?_, .int _ _⟩ | refine ⟨_, ?_, .bool _⟩
    all_goals simp [binOp, Op.intArith, Op.intBits, Op.intCmp]
  · rename_i a b
    obtain rfl := hx.str_inv
    obtain rfl := hy.str_inv
    split at hb
    case h_1 =>
      refine ⟨.string ⟨(a ++ b).toArray⟩, ?_, hb.2 ▸ .str _⟩
      have := hb.1
      have e : ¬ (IntKind.i64.max < (((ByteArray.mk a.toArray).size + (ByteArray.mk b.toArray).size : Nat) : Int)) := by rw [mk_size, mk_size]; simp [IntKind.max, IntKind.bits, IntKind.signed]; omega
      simp only [binOp, Op.stringOp]
      rw [if_neg (by simpa using e), mk_append]; rfl
    case h_8 => exact hb.elim
    all_goals subst hb
    all_goals refine ⟨_, ?_, .bool _⟩
    all_goals simp [binOp, Op.stringOp, ByteArray.toList_mk]
  · exact hb.elim

theorem eqGuard_none {op : BinOp} {xt : Nat} {x y : Operand} {a b : Value} (h1 : a ≠ .nilIface ∨ b ≠ .nilIface ∨ (isC x || isC y) = true) (h2 : ∀ cs, a ≠ .agg cs) :
    (eqGuard op xt x y a b).run P w = .ok () w := by
  cases op <;> first
    | rfl
    | (unfold eqGuard
       simp only [Bool.not_true, Bool.false_eq_true, if_false]
       split
       · have h1' := (h1.resolve_left (fun h => h rfl)).resolve_left (fun h => h rfl)
         cases x <;> cases y <;> first | rfl | simp [isC] at h1'
       · exact absurd rfl (h2 _)
       · rfl)

theorem eqCell_inv {k : CK} {x y : AV} {r : Bool} (h : eqCell k x y = some r) :
    (k = .int ∧ ∃ j a b, x = .int j a ∧ y = .int j b ∧ r = (a == b)) ∨ (k = .str ∧ ∃ a b, x = .str a ∧ y = .str b ∧ r = (a == b)) ∨ (k = .bool ∧ ∃ a b, x = .bool a ∧ y = .bool b ∧ r = (a == b)) := by
  unfold eqCell at h
  split at h
  · split at h
    · rename_i hk; subst hk; cases h; exact .inl ⟨rfl, _, _, _, rfl, rfl, rfl⟩
    · cases h
  · cases h; exact .inr (.inl ⟨rfl, _, _, rfl, rfl, rfl⟩)
  · cases h; exact .inr (.inr ⟨rfl, _, _, rfl, rfl, rfl⟩)
  · cases h

theorem eqCells_sound {xs ys : List AV} {cx cy : Array Value} (hx : VRel m (.agg xs) (.agg cx)) (hy : VRel m (.agg ys) (.agg cy)) (d : Nat) :
    ∀ (fs : List Field) (os : List (Nat × CK)) (b : Bool), eqOffs P fs = some os → eqCells xs ys os = some b → (Op.eqFields (d + 1) cx cy fs).run P w = .ok b w := by
  have one : ∀ {zs : List AV} {cz : Array Value} {o : Nat} {z : AV}, VRel m (.agg zs) (.agg cz) → zs[o]? = some z → ∃ c, cz[o]? = some c ∧ VRel m z c := by
    intro zs cz o z hz e
    cases hz with
    | agg _ _ h1 h2 =>
      have hlt : o < cz.size := by have := (List.getElem?_eq_some_iff.1 e).1; omega
      exact ⟨cz[o], by simp [hlt], h2 o z _ e (by simp [hlt])⟩
  intro fs
  induction fs with
  | nil => intro os b h1 h2; simp [eqOffs] at h1; subst h1; simp [eqCells] at h2; subst h2; rfl
  | cons f fs ih =>
    intro os b h1 h2
    unfold eqOffs at h1
    split at h1
    · cases h1
    rename_i hname
    have main : ∀ k, (∀ z u c e, VRel m z c → VRel m u e → ∀ r, eqCell k z u = some r → (Op.equalIn (d + 1) f.type c e).run P w = .ok r w) → (isAgg f.type).run P w = .ok false w →
        ∀ os', eqOffs P fs = some os' → os = (f.offset, k) :: os' → (Op.eqFields (d + 1) cx cy (f :: fs)).run P w = .ok b w := by
      rintro k hk hag os' h3 rfl
      unfold eqCells at h2
      split at h2
      · rename_i z u e1 e2
        obtain ⟨c, g1, g2⟩ := one hx e1
        obtain ⟨e, g3, g4⟩ := one hy e2
        have p1 : (part f.type cx f.offset).run P w = .ok c w := by simp [part, hag, g1]
        have p2 : (part f.type cy f.offset).run P w = .ok e w := by simp [part, hag, g3]
        split at h2
        · rename_i hr
          have := hk _ _ _ _ g2 g4 _ hr
          simp [Op.eqFields, hname, p1, p2, this]
          exact ih os' b h3 h2
        · rename_i hr
          have := hk _ _ _ _ g2 g4 _ hr
          cases h2
          simp [Op.eqFields, hname, p1, p2, this]
        · cases h2
      · cases h2
    split at h1
    · rename_i k hu
      cases h3 : eqOffs P fs with
      | none => simp [h3] at h1
      | some os' =>
        simp [h3] at h1
        refine main .int ?_ (by simp [isAgg, run_underlying hu]) os' h3 h1.symm
        intro z u c e q1 q2 r hr
        rcases eqCell_inv hr with ⟨_, j, a, b, rfl, rfl, rfl⟩ | ⟨hk, _⟩ | ⟨hk, _⟩
        · obtain rfl := q1.int_inv
          obtain rfl := q2.int_inv
          exact run_equalIn_int w d _ _ _ _ _ hu
        · cases hk
        · cases hk
    · rename_i hu
      cases h3 : eqOffs P fs with
      | none => simp [h3] at h1
      | some os' =>
        simp [h3] at h1
        refine main .str ?_ (by simp [isAgg, run_underlying hu]) os' h3 h1.symm
        intro z u c e q1 q2 r hr
        rcases eqCell_inv hr with ⟨hk, _⟩ | ⟨_, a, b, rfl, rfl, rfl⟩ | ⟨hk, _⟩
        · cases hk
        · obtain rfl := q1.str_inv
          obtain rfl := q2.str_inv
          simp [run_equalIn_string w d _ _ _ hu, ByteArray.toList_mk]
        · cases hk
    · rename_i hu
      cases h3 : eqOffs P fs with
      | none => simp [h3] at h1
      | some os' =>
        simp [h3] at h1
        refine main .bool ?_ (by simp [isAgg, run_underlying hu]) os' h3 h1.symm
        intro z u c e q1 q2 r hr
        rcases eqCell_inv hr with ⟨hk, _⟩ | ⟨hk, _⟩ | ⟨_, a, b, rfl, rfl, rfl⟩
        · cases hk
        · cases hk
        · obtain rfl := q1.bool_inv
          obtain rfl := q2.bool_inv
          exact run_equalIn_bool' w d _ _ _ hu
    · cases h1

end Gls
