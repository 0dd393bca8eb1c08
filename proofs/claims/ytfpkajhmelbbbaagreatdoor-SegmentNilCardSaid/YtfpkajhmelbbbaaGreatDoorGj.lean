/- The operations that leave memory alone: what the view says of their answer holds of the model's. No condition. -/
import Derived.Test.YtfpkajhmelbbbaaGreatDoorGi
set_option linter.unusedVariables false
set_option linter.unusedSimpArgs false
namespace Gls
open Go
variable {P : Program} {m : Emb} {h : AH} {w : World}

theorem flatC_drop {sz : Nat} {l : List AV} (h : ∀ e ∈ l, e.cells.length = sz) (i : Nat) (hi : i ≤ l.length) : flatC (l.drop i) = (flatC l).drop (i * sz) := by
  have e : flatC l = flatC (l.take i) ++ flatC (l.drop i) := by rw [← flatC_append, List.take_append_drop]
  have e2 : (flatC (l.take i)).length = i * sz := by rw [flatC_length (fun e he => h e (List.mem_of_mem_take he)), List.length_take, Nat.min_eq_left hi]
  rw [e, List.drop_append, ← e2]; simp
theorem flatC_take {sz : Nat} {l : List AV} (h : ∀ e ∈ l, e.cells.length = sz) (i : Nat) (hi : i ≤ l.length) : flatC (l.take i) = (flatC l).take (i * sz) := by
  have e : flatC l = flatC (l.take i) ++ flatC (l.drop i) := by rw [← flatC_append, List.take_append_drop]
  have e2 : (flatC (l.take i)).length = i * sz := by rw [flatC_length (fun e he => h e (List.mem_of_mem_take he)), List.length_take, Nat.min_eq_left hi]
  rw [e, List.take_append, ← e2]; simp

theorem aSliceSl_sound (H : HRel P m h w) {x v : AV} {lo hi : Option AV} {cl ch : Option Value} {c : Value} {t T sz : Nat} (ht : P.underlying t = some (.slice T)) (hz : sizeOf? P T = some sz) (hx : VRel m x c)
    (hl : ∀ v, lo = some v → ∃ cv, cl = some cv ∧ VRel m v cv) (hl' : lo = none → cl = none) (hh : ∀ v, hi = some v → ∃ cv, ch = some cv ∧ VRel m v cv) (hh' : hi = none → ch = none)
    (hs : aSliceSl T sz x lo hi (· = v)) : ∃ r, (Instr.sliceAt t c cl ch none).run P w = .ok r w ∧ VRel m v r := by
  have run : ∀ {a : Option Addr} {len cap p q : Nat}, (Instr.sliceBounds true len cap cl ch none).run P w = .ok (q, p, cap) w →
      (Instr.sliceAt t (.slice a len cap) cl ch none).run P w = .ok (.slice (if cap = q then a else a.map (·.add (q * sz))) (p - q) (cap - q)) w := by
    intro a len cap p q g
    simp [Instr.sliceAt, Instr.slice, run_underlying ht, g, run_sizeOf hz]
  unfold aSliceSl at hs
  split at hs
  · obtain ⟨a, b, k, h1, h2⟩ := aBounds_det hs
    cases hx with
    | nils ad =>
      obtain ⟨g1, g2, g3⟩ := bounds_sound (P := P) (w := w) true (Nat.le_refl 0) hl hl' hh hh' h1 h2
      obtain rfl : a = 0 := by omega
      obtain rfl : b = 0 := by omega
      exact ⟨_, run g3, k ▸ .nils _⟩
  · rename_i sz' l
    obtain ⟨rfl, hs⟩ := hs
    obtain ⟨a, b, k, h1, h2⟩ := aBounds_det hs
    cases hx with
    | vals0 _ ad cap =>
      obtain ⟨g1, g2, g3⟩ := bounds_sound (P := P) (w := w) true (Nat.zero_le cap) hl hl' hh hh' h1 h2
      simp at g1
      obtain rfl : a = 0 := by omega
      obtain rfl : b = 0 := by omega
      exact ⟨_, run g3, k ▸ .vals0 _ _ _⟩
    | vals _ _ bl o cap f q1 q2 q3 q4 q5 q6 =>
      obtain ⟨g1, g2, g3⟩ := bounds_sound (P := P) (w := w) true q1 hl hl' hh hh' h1 h2
      refine ⟨_, run g3, k ▸ ?_⟩
      have hlen : ((l.take a).drop b).length = a - b := by simp; omega
      by_cases hab : a = b
      · subst hab
        have : (l.take a).drop a = [] := by simp
        rw [this, Nat.sub_self]
        exact .vals0 _ _ _
      · rw [if_neg (by omega)]
        have hsz : ∀ e ∈ (l.take a).drop b, e.cells.length = sz' := fun e he => q4 e (List.mem_of_mem_take (List.mem_of_mem_drop he))
        have hfl : flatC ((l.take a).drop b) = ((flatC l).take (a * sz')).drop (b * sz') := by
          rw [flatC_drop (sz := sz') (fun e he => q4 e (List.mem_of_mem_take he)) b (by simp; omega), flatC_take q4 a g1]
        have := VRel.vals (m := m) sz' ((l.take a).drop b) bl (o + b * sz') (cap - b) (fun k => f (b * sz' + k)) (by omega) q2 (by omega) hsz
          (fun k hk => by rw [Nat.add_assoc]; exact q5 _ (by rw [hfl] at hk; simp at hk; omega))
          (fun k v hv => q6 _ v (by
            rw [hfl, List.getElem?_drop, List.getElem?_take] at hv
            split at hv
            · exact hv
            · cases hv))
        rw [hlen] at this
        simpa [addr_add] using this
  · rename_i r n
    obtain ⟨hT, hs⟩ := hs
    obtain ⟨a, b, k, h1, h2⟩ := aBounds_det hs
    cases hx with
    | slc0 _ L ad e1 e2 =>
      obtain ⟨g1, g2, g3⟩ := bounds_sound (P := P) (w := w) true (Nat.le_refl 0) hl hl' hh hh' h1 h2
      obtain rfl : a = 0 := by omega
      obtain rfl : b = 0 := by omega
      exact ⟨_, run g3, k ▸ .slc0 _ L _ e1 (by simpa using e2)⟩
    | slc _ _ L cap e1 e2 e3 e4 e5 e6 e7 =>
      obtain ⟨g1, g2, g3⟩ := bounds_sound (P := P) (w := w) true e2 hl hl' hh hh' h1 h2
      refine ⟨_, run g3, k ▸ ?_⟩
      have hsz : L.sz = sz := by have := (H.sized _ _ _ e1).1; rw [hT, hz] at this; exact (Option.some.inj this).symm
      by_cases hcb : cap = b
      · obtain rfl : a = b := by omega
        rw [Nat.sub_self, hcb, Nat.sub_self]
        exact .slc0 _ L _ e1 (by simpa [hcb] using e6)
      · rw [if_neg hcb]
        have ea : (Option.map (fun x => x.add (b * sz)) (some (L.addr r))) = some (L.addr { r with idx := r.idx + b }) := by
          simp only [Option.map_some, Loc.addr, addr_add, Option.some.injEq, Addr.mk.injEq, true_and, and_true]
          rw [← hsz, Nat.add_mul]; omega
        rw [ea]
        refine .slc _ _ L _ e1 (by omega) e3 e4 ?_ (by simp; omega) (by omega)
        have : (r.idx + b + (cap - b)) = r.idx + cap := by omega
        simp only; rw [this]; exact e5
  · exact hs.elim

theorem aIdxAddrS_sound (H : HRel P m h w) {x i v : AV} {c d : Value} {t T sz : Nat} (ht : P.underlying t = some (.slice T)) (hz : sizeOf? P T = some sz) (hx : VRel m x c) (hi : VRel m i d)
    (hs : aIdxAddrS T sz x i (· = v)) : ∃ r, (Instr.indexAt t c d).run P w = .ok r w ∧ VRel m v r := by
  have run : ∀ {a : Addr} {len cap : Nat} {k : IntKind} {j : Int}, 0 ≤ j → j < len → (Instr.indexAt t (.slice (some a) len cap) (.int k j)).run P w = .ok (.pointer (some (a.add (j.toNat * sz)))) w := by
    intro a len cap k j h1 h2
    simp [Instr.indexAt, asIntOf, run_underlying ht, h1, h2, run_sizeOf hz]
  unfold aIdxAddrS at hs
  split at hs
  · rename_i sz' l k j
    obtain ⟨rfl, h0, e, h1, rfl⟩ := hs
    obtain rfl := hi.int_inv
    have hlt := (List.getElem?_eq_some_iff.1 h1).1
    cases hx with
    | vals0 => simp at hlt
    | vals _ _ bl o cap f q1 q2 q3 q4 q5 q6 =>
      refine ⟨_, run h0 (by omega), ?_⟩
      rw [addr_add]
      have hel := q4 e (List.mem_of_getElem? h1)
      refine .iptr e 0 bl (o + j.toNat * sz') (fun q => f (j.toNat * sz' + q)) (fun q hq => ?_) (fun q u hu => ?_)
      · rw [Nat.add_assoc]
        refine q5 _ ?_
        rw [flatC_length q4]
        have : (j.toNat + 1) * sz' ≤ l.length * sz' := Nat.mul_le_mul_right _ hlt
        rw [Nat.succ_mul] at this; omega
      · refine q6 _ u ?_
        rw [flatC_get q4 h1 (by have := (List.getElem?_eq_some_iff.1 hu).1; omega)]; exact hu
  · rename_i r n k j
    obtain ⟨hT, ⟨h0, h1⟩, rfl⟩ := hs
    obtain rfl := hi.int_inv
    cases hx with
    | slc0 _ L ad e1 e2 => omega
    | slc _ _ L cap e1 e2 e3 e4 e5 e6 e7 =>
      refine ⟨_, run h0 h1, ?_⟩
      have hsz : L.sz = sz := by have := (H.sized _ _ _ e1).1; rw [hT, hz] at this; exact (Option.some.inj this).symm
      have ea : (L.addr r).add (j.toNat * sz) = L.addr { r with idx := r.idx + j.toNat } := by
        simp only [Loc.addr, addr_add, Addr.mk.injEq, true_and, and_true]
        rw [← hsz, Nat.add_mul]; omega
      rw [ea]
      exact .ptr _ L e1
  · exact hs.elim

theorem aIdxAddrA_sound {x i v : AV} {c d : Value} {t len E sz : Nat} (ht : P.underlying t = some (.array len E)) (hz : sizeOf? P E = some sz) (hx : VRel m x c) (hi : VRel m i d)
    (hs : aIdxAddrA len sz x i (· = v)) : ∃ r, (Instr.indexAt t c d).run P w = .ok r w ∧ VRel m v r := by
  have run : ∀ {a : Addr} {k : IntKind} {j : Int}, 0 ≤ j → j < len → (Instr.indexAt t (.pointer (some a)) (.int k j)).run P w = .ok (.pointer (some (a.add (j.toNat * sz)))) w := by
    intro a k j h1 h2
    simp [Instr.indexAt, Instr.sureAddr, asIntOf, run_underlying ht, h1, h2, run_sizeOf hz]
  unfold aIdxAddrA at hs
  split at hs
  · rename_i r k j
    obtain ⟨⟨h0, h1⟩, rfl⟩ := hs
    obtain rfl := hi.int_inv
    cases hx with
    | ptr _ L e1 =>
      refine ⟨_, run h0 h1, ?_⟩
      rw [show (L.addr r).add _ = L.addr { r with off := r.off + j.toNat * sz } by simp only [Loc.addr, addr_add, Addr.mk.injEq, true_and, and_true]; exact Nat.add_assoc _ _ _]
      exact .ptr _ L e1
  · obtain ⟨⟨h0, h1⟩, rfl⟩ := hs
    obtain rfl := hi.int_inv
    cases hx with
    | iptr e off b o f q1 q2 =>
      refine ⟨_, run h0 h1, ?_⟩
      rw [addr_add, Nat.add_assoc]
      exact .iptr _ _ b o f q1 q2
  · exact hs.elim

theorem aFieldAddr_sound {x v : AV} {c : Value} {t f s : Nat} {fs : Array Field} {fd : Field} (ht : P.underlying t = some (.struct fs)) (hf : fs[f]? = some fd) (hz : sizeOf? P fd.type = some s) (hs0 : s ≠ 0) (hx : VRel m x c)
    (hs : aFieldAddr fd.offset x (· = v)) : ∃ r, (Instr.fieldAt t c f).run P w = .ok r w ∧ VRel m v r := by
  have run : ∀ {a : Addr}, (Instr.fieldAt t (.pointer (some a)) f).run P w = .ok (.pointer (some (a.add fd.offset))) w := by
    intro a
    simp [Instr.fieldAt, Instr.sureAddr, run_underlying ht, hf, fieldPlace, run_sizeOf hz, hs0]
  unfold aFieldAddr at hs
  split at hs
  · rename_i r
    subst hs
    cases hx with
    | ptr _ L e1 =>
      refine ⟨_, run, ?_⟩
      rw [show (L.addr r).add fd.offset = L.addr { r with off := r.off + fd.offset } by simp only [Loc.addr, addr_add, Addr.mk.injEq, true_and, and_true]; exact Nat.add_assoc _ _ _]
      exact .ptr _ L e1
  · subst hs
    cases hx with
    | iptr e off b o f' q1 q2 =>
      refine ⟨_, run, ?_⟩
      rw [addr_add, Nat.add_assoc]
      exact .iptr _ _ b o f' q1 q2
  · exact hs.elim

/-- A part of an aggregate that is no memory. -/
theorem part_sound {cs : List AV} {v : AV} {a : Array Value} {agg : Option Nat} {t off : Nat} (hr : VRels m cs a.toList) (ha : aggOf P t = some agg) (hp : aPart agg (.agg cs) off (· = v)) :
    ∃ c, (part t a off).run P w = .ok c w ∧ VRel m v c := by
  unfold aPart at hp
  cases agg with
  | some n =>
    obtain ⟨hle, hv⟩ := hp
    simp only [AV.cells] at hle hv
    refine ⟨.agg (a.extract off (off + n)), by simp [part, run_isAgg ha, run_sizeOf_agg ha], ?_⟩
    rw [← hv]
    have hlen := hr.1
    simp at hlen
    refine .agg _ _ (by simp; omega) fun i u c e e' => ?_
    rw [List.getElem?_take] at e
    split at e
    · rename_i hlt
      rw [List.getElem?_drop] at e
      obtain ⟨c', g1, g2⟩ := hr.get e
      simp only [Array.getElem?_toList] at g1
      rw [Array.getElem?_extract, if_pos (by omega), g1] at e'
      cases e'; exact g2
    · cases e
  | none =>
    obtain ⟨u, h1, rfl⟩ := hp
    obtain ⟨c, h3, h4⟩ := hr.get h1
    simp only [Array.getElem?_toList] at h3
    exact ⟨c, by simp [part, run_isAgg ha, h3], h4⟩

theorem aIdxStr_sound {x i v : AV} {c d : Value} {t : Nat} (ht : P.underlying t = some .string) (hx : VRel m x c) (hi : VRel m i d)
    (hs : aIdxStr x i (· = v)) : ∃ r, (Instr.index t c d).run P w = .ok r w ∧ VRel m v r := by
  unfold aIdxStr at hs
  split at hs
  · obtain ⟨h0, b, h1, rfl⟩ := hs
    obtain rfl := hx.str_inv
    obtain rfl := hi.int_inv
    exact ⟨_, by simp [Instr.index, asIntOf, run_underlying ht, h0, mk_get, h1], .int _ _⟩
  · exact hs.elim

end Gls
