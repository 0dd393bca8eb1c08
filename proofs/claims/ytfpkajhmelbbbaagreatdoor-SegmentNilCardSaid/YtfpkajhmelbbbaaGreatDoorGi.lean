/- The operations that leave memory alone: what the view says of their answer holds of the model's. No condition. -/
import Derived.Test.YtfpkajhmelbbbaaGreatDoorGh
import Derived.Laws.Strings2
import Derived.Laws.Strings3
set_option linter.unusedVariables false
set_option linter.unusedSimpArgs false
namespace Gls
open Go
variable {P : Program} {m : Emb} {h : AH} {w : World}

theorem aUn_sound {op : UnOp} {x v : AV} {cx : Value} (hx : VRel m x cx) (hb : aUn op x (· = v)) : ∃ c, (Op.unary op cx).run P w = .ok c w ∧ VRel m v c := by
  unfold aUn at hb
  split at hb
  · obtain rfl := hx.bool_inv; subst hb; exact ⟨_, rfl, .bool _⟩
  · obtain rfl := hx.int_inv; subst hb; exact ⟨_, rfl, .int _ _⟩
  · obtain rfl := hx.int_inv; subst hb; exact ⟨_, rfl, .int _ _⟩
  · exact hb.elim

theorem run_forInBytes : ∀ (s : List UInt8) (a : List UInt8), ((s.map fun b => (b.toNat : Int)).foldl (fun r n => r.push (UInt8.ofNat n.toNat)) (ByteArray.mk a.toArray)) = ⟨(a ++ s).toArray⟩ := by
  intro s
  induction s with
  | nil => intro a; simp
  | cons x s ih =>
    intro a
    have := ih (a ++ [x])
    simp only [List.map_cons, List.foldl_cons, Int.toNat_natCast, UInt8.ofNat_toNat]
    rw [show (ByteArray.mk a.toArray).push x = ⟨(a ++ [x]).toArray⟩ by simp [ByteArray.push], this]
    simp

theorem bytesOf_inv : ∀ {xs : List AV} {s : List UInt8}, bytesOf xs = some s → (∀ x ∈ xs, ∃ n : Int, x = .int .u8 n) ∧ s = xs.map fun x => match x with | .int _ n => UInt8.ofNat n.toNat | _ => 0
  | [], s, h => by simp [bytesOf] at h; subst h; simp
  | x :: xs, s, h => by
    unfold bytesOf at h
    split at h
    · rename_i he; cases he
    · rename_i n l he
      cases he
      cases hb : bytesOf xs with
      | none => rw [hb] at h; cases h
      | some s' =>
        rw [hb] at h; cases h
        obtain ⟨a, b⟩ := bytesOf_inv hb
        refine ⟨fun y hy => ?_, by simp [b]⟩
        rcases List.mem_cons.1 hy with rfl | hy
        · exact ⟨n, rfl⟩
        · exact a y hy
    · cases h

theorem flatC_ints {xs : List AV} (h1 : ∀ x ∈ xs, ∃ n : Int, x = .int .u8 n) : flatC xs = xs := by
  induction xs with
  | nil => rfl
  | cons y ys ih =>
    obtain ⟨n, rfl⟩ := h1 y (by simp)
    rw [flatC_cons, ih (fun z hz => h1 z (by simp [hz]))]; rfl

theorem fold_bytes {xs : List AV} (h1 : ∀ x ∈ xs, ∃ n : Int, x = .int .u8 n) (acc : ByteArray) :
    (xs.map fun x => match x with | .int _ n => n | _ => 0).foldl (fun r n => r.push (UInt8.ofNat n.toNat)) acc =
    ((xs.map fun x => match x with | .int _ n => UInt8.ofNat n.toNat | _ => 0).map fun b => (b.toNat : Int)).foldl (fun r n => r.push (UInt8.ofNat n.toNat)) acc := by
  induction xs generalizing acc with
  | nil => rfl
  | cons z zs ih =>
    obtain ⟨n, rfl⟩ := h1 z (by simp)
    simp only [List.map_cons, List.foldl_cons, Int.toNat_natCast, UInt8.ofNat_toNat]
    exact ih (fun y hy => h1 y (by simp [hy])) _

theorem b2s_sound (H : HRel P m h w) {x : AV} {c : Value} {T : Nat} {xs : List AV} {s : List UInt8} (hz : sizeOf? P T = some 1) (hv : VRel m x c) (hs : isSl x = true) (hx : aElems T 1 x h (· = xs)) (hb : bytesOf xs = some s) :
    (Conv.bytesToString c).run P w = .ok (.string ⟨s.toArray⟩) w := by
  rcases elems_at H hz hv hx with ⟨t, rfl, _, _⟩ | ⟨a, cap, rfl, _, h3⟩
  · cases x <;> simp [isSl] at hs <;> cases hv
  obtain ⟨h1, h2⟩ := bytesOf_inv hb
  have hfl : flatC xs = xs := flatC_ints h1
  cases hl : xs with
  | nil =>
    subst hl
    simp at h2; subst h2
    cases a with
    | none => rfl
    | some a =>
      have : (loadCells a 0).run P w = .ok (([] : List Int).map (Value.int .u8)).toArray w := by rfl
      exact run_bytesToString w a 0 cap [] this
  | cons y ys =>
    obtain ⟨_, b, o, rfl, h4⟩ := h3 (by simp [hl])
    obtain ⟨vs, g1, g2, g3⟩ := load_cells (P := P) h4
    have hvs : vs = (xs.map fun x => match x with | .int _ n => n | _ => 0).map (Value.int .u8) := by
      rw [hfl] at g3
      apply List.ext_getElem?
      intro i
      by_cases hi : i < xs.length
      · obtain ⟨n, hn⟩ := h1 _ (List.getElem_mem hi)
        have e1 : xs[i]? = some (.int .u8 n) := by rw [List.getElem?_eq_getElem hi, hn]
        obtain ⟨c, e2, e3⟩ := g3.get e1
        rw [e2, e3.int_inv]
        simp [e1]
      · rw [List.getElem?_eq_none (by rw [g2, hfl]; omega), List.getElem?_eq_none (by simp; omega)]
    rw [hvs] at g1
    rw [hfl] at g1
    have := run_bytesToString w _ xs.length cap _ g1
    rw [← hl, this]
    have e := run_forInBytes s []
    have e' : (xs.map fun x => match x with | .int _ n => n | _ => 0).foldl (fun r n => r.push (UInt8.ofNat n.toNat)) ByteArray.empty = ⟨s.toArray⟩ := by
      have : (s.map fun b => (b.toNat : Int)).foldl (fun r n => r.push (UInt8.ofNat n.toNat)) (ByteArray.mk (#[] : Array UInt8)) = ⟨s.toArray⟩ := by simpa using e
      rw [← this, h2]; exact fold_bytes h1 _
    rw [e']

theorem aBound_sound {x : Option AV} {c : Option Value} {d hi n : Nat} {code : BoundsCode} (hx : ∀ v, x = some v → ∃ cv, c = some cv ∧ VRel m v cv) (hn : x = none → c = none) (hb : aBound x d hi (· = n)) (y : Nat) (hy : hi ≤ y) :
    (x = none ∧ c = none ∧ n = d) ∨ ∃ cv, c = some cv ∧ n ≤ hi ∧ (Instr.sliceBound cv y code).run P w = .ok n w := by
  unfold aBound at hb
  split at hb
  · exact .inl ⟨rfl, hn rfl, hb.symm⟩
  · rename_i k i
    obtain ⟨cv, h1, h2⟩ := hx _ rfl
    obtain rfl := h2.int_inv
    obtain ⟨⟨a, b⟩, rfl⟩ := hb
    refine .inr ⟨_, h1, by omega, ?_⟩
    simp [Instr.sliceBound, asIntOf, a, show i ≤ (y : Int) by omega]
  · exact hb.elim

/-- The bounds of a slice expression with two indexes. -/
theorem bounds_sound {lo hi : Option AV} {cl ch : Option Value} {len cap a b : Nat} (sl : Bool) (hcap : len ≤ cap)
    (hl : ∀ v, lo = some v → ∃ cv, cl = some cv ∧ VRel m v cv) (hl' : lo = none → cl = none) (hh : ∀ v, hi = some v → ∃ cv, ch = some cv ∧ VRel m v cv) (hh' : hi = none → ch = none)
    (h1 : aBound hi len len (· = a)) (h2 : aBound lo 0 a (· = b)) : a ≤ len ∧ b ≤ a ∧ (Instr.sliceBounds sl len cap cl ch none).run P w = .ok (b, a, cap) w := by
  rcases aBound_sound (P := P) (w := w) (code := if sl then .sliceAcap else .sliceAlen) hh hh' h1 cap hcap with ⟨_, rfl, rfl⟩ | ⟨cv, rfl, g1, g2⟩
  · rcases aBound_sound (P := P) (w := w) (code := .sliceB) hl hl' h2 a (Nat.le_refl _) with ⟨_, rfl, rfl⟩ | ⟨cv, rfl, g1, g2⟩
    · exact ⟨Nat.le_refl _, by omega, by simp [Instr.sliceBounds]⟩
    · exact ⟨Nat.le_refl _, g1, by simp [Instr.sliceBounds, g2]⟩
  · rcases aBound_sound (P := P) (w := w) (code := .sliceB) hl hl' h2 a (Nat.le_refl _) with ⟨_, rfl, rfl⟩ | ⟨cv', rfl, g3, g4⟩
    · exact ⟨g1, by omega, by simp [Instr.sliceBounds, g2]⟩
    · exact ⟨g1, g3, by simp [Instr.sliceBounds, g2, g4]⟩

theorem aSliceStr_sound {x v : AV} {lo hi : Option AV} {cl ch : Option Value} {c : Value} {t : Nat} (ht : P.underlying t = some .string) (hx : VRel m x c)
    (hl : ∀ v, lo = some v → ∃ cv, cl = some cv ∧ VRel m v cv) (hl' : lo = none → cl = none) (hh : ∀ v, hi = some v → ∃ cv, ch = some cv ∧ VRel m v cv) (hh' : hi = none → ch = none)
    (hs : aSliceStr x lo hi (· = v)) : ∃ r, (Instr.sliceAt t c cl ch none).run P w = .ok r w ∧ VRel m v r := by
  unfold aSliceStr at hs
  split at hs
  · rename_i s
    obtain rfl := hx.str_inv
    obtain ⟨a, b, k, h1, h2⟩ := aBounds_det hs
    obtain ⟨g1, g2, g3⟩ := bounds_sound (P := P) (w := w) false (Nat.le_refl _) hl hl' hh hh' h1 h2
    refine ⟨.string ⟨((s.take a).drop b).toArray⟩, ?_, k ▸ .str _⟩
    have e : (ByteArray.mk s.toArray).extract b a = ⟨((s.take a).drop b).toArray⟩ := by rw [ByteArray.extract_mk, List.drop_take]
    simp [Instr.sliceAt, Instr.slice, run_underlying ht, mk_size, g3, e]
  · exact hs.elim

end Gls
