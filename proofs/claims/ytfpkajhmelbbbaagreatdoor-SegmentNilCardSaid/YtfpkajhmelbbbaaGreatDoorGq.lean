/- Appends, copies, new slices: what the view says holds of the model's. No condition. -/
import Derived.Test.YtfpkajhmelbbbaaGreatDoorGp
set_option linter.unusedVariables false
set_option linter.unusedSimpArgs false
namespace Gls
open Go
variable {P : Program} {m : Emb} {h : AH} {w : World}

theorem src_run (H : HRel P m h w) {x : AV} {c : Value} {T sz : Nat} {xs : List AV} (hz : sizeOf? P T = some sz) (hv : VRel m x c) (hx : aElems T sz x h (· = xs)) :
    (Builtin.lenOf c).run P w = .ok xs.length w ∧ ∀ n, n ≤ xs.length → ∃ vs : List Value, (Builtin.firstCells sz n c).run P w = .ok vs.toArray w ∧ VRels m (flatC (xs.take n)) vs := by
  rcases elems_at H hz hv hx with ⟨s, rfl, rfl, rfl⟩ | ⟨a, cap, rfl, _, h3⟩
  · refine ⟨by simp [Builtin.lenOf, mk_size], fun n hn => ⟨(s.take n).map fun b => .int .u8 b.toNat, ?_, ?_⟩⟩
    · have e : (ByteArray.mk s.toArray).extract 0 n = ⟨(s.take n).toArray⟩ := by rw [ByteArray.extract_mk]; simp
      simp [Builtin.firstCells, e]
    · rw [← List.map_take, flatC_ints (fun x hx => by obtain ⟨b, _, rfl⟩ := List.mem_map.1 hx; exact ⟨_, rfl⟩)]
      exact VRels.of_map _ fun b => .int _ _
  · refine ⟨by simp [Builtin.lenOf], fun n hn => ?_⟩
    by_cases h0 : 0 < xs.length
    · obtain ⟨hs, b, o, rfl, hc⟩ := h3 h0
      obtain ⟨vs, g1, g2, g3⟩ := load_cells (P := P) (hc.take (n * sz))
      have hl : ((flatC xs).take (n * sz)).length = n * sz := by
        rw [List.length_take, flatC_length hs]; exact Nat.min_eq_left (Nat.mul_le_mul_right _ hn)
      rw [hl] at g1
      exact ⟨vs, by simp [Builtin.firstCells, g1], by rw [flatC_take hs n hn]; exact g3⟩
    · have hx0 : xs = [] := List.length_eq_zero_iff.1 (by omega)
      subst hx0
      have hn0 : n = 0 := by simpa using hn
      subst hn0
      refine ⟨[], ?_, VRels.nil⟩
      cases a with
      | none => simp [Builtin.firstCells]
      | some a => simp [Builtin.firstCells, loadCells, loadCellsFrom]

theorem growBy_le (n : Nat) (hn : 256 ≤ n) : ∀ (k c : Nat), c < n → Builtin.growBy n k c ≤ 2 * n
  | 0, c, h => by simp [Builtin.growBy]; omega
  | k + 1, c, h => by
    unfold Builtin.growBy
    rw [if_neg (by omega)]
    by_cases h' : c + (c + 768) / 4 < n
    · exact growBy_le n hn k _ h'
    · have : Builtin.growBy n k (c + (c + 768) / 4) = c + (c + 768) / 4 := by
        cases k with
        | zero => rfl
        | succ k => unfold Builtin.growBy; rw [if_pos (by omega)]
      rw [this]; omega

theorem nextcap_le (n c : Nat) (h : c < n) : Builtin.nextslicecap n c ≤ 2 * n := by
  unfold Builtin.nextslicecap
  split
  · omega
  · split
    · omega
    · exact growBy_le n (by omega) 4 c h

/-- The model's append, behind what it looks up. -/
theorem append_in {ats : Array TypeId} {ty t T u sz : Nat} {du : TypeDesc} (h0 : ats[0]? = some t) (h1 : ats[1]? = some u) (ht : P.underlying t = some (.slice T)) (hu : P.underlying u = some du) (hnu : srcDesc du = true) (hz : sizeOf? P T = some sz)
    {base : Option Addr} {n c k : Nat} {cx : Value} {vs : List Value} (hl : (Builtin.lenOf cx).run P w = .ok k w) (hf : (Builtin.firstCells sz k cx).run P w = .ok vs.toArray w) (hle : n + k ≤ c) :
    (Builtin.append_ ats ty #[.slice base n c, cx]).run P w =
      (match base with | some a => (storeCells (a.add (n * sz)) vs).run P w | none => .ok () w).andThen fun _ w' => .ok (.slice base (n + k) c) w' := by
  cases du <;> simp only [srcDesc, Bool.false_eq_true] at hnu
  · cases base <;> simp [Builtin.append_, h0, h1, run_underlying ht, run_underlying hu, run_sizeOf hz, hl, hf, hle]
  · cases base <;> simp [Builtin.append_, h0, h1, run_underlying ht, run_underlying hu, run_sizeOf hz, hl, hf, hle]

theorem append_re {ats : Array TypeId} {ty t T u bytes : Nat} {du : TypeDesc} {z : Value} (h0 : ats[0]? = some t) (h1 : ats[1]? = some u) (ht : P.underlying t = some (.slice T)) (hu : P.underlying u = some du) (hnu : srcDesc du = true)
    (hzv : zeroOf P T = some z) (hz : sizeOf? P T = some z.cells.size) (hb : bytesOf? P T = some bytes) (hb0 : bytes ≠ 0)
    {base : Option Addr} {n c k : Nat} {cx : Value} {vs olds : List Value} (hl : (Builtin.lenOf cx).run P w = .ok k w) (hf : (Builtin.firstCells z.cells.size k cx).run P w.drew = .ok vs.toArray w.drew)
    (ho : (Builtin.firstCells z.cells.size n (.slice base n c)).run P w.drew = .ok olds.toArray w.drew)
    (hlt : c < n + k) (hby : (n + k) * bytes ≤ 2 ^ 47) :
    ∃ cap, n + k ≤ cap ∧ ∃ rest : Array Value, rest.size = (cap - (n + k)) * z.cells.size ∧
    (Builtin.append_ ats ty #[.slice base n c, cx]).run P w = .ok (.slice (some ⟨w.heap.size, 0, none⟩) (n + k) cap) { w with heap := w.heap.push (.cells ((olds ++ vs).toArray ++ rest) T (0, 0)), drawn := w.drawn + 1 } := by
  have hi : ∃ i, P.info? T = some i ∧ i.bytes = bytes := by
    unfold bytesOf? at hb
    cases hi : P.info? T with
    | none => simp [hi] at hb
    | some i => simp [hi] at hb; exact ⟨i, rfl, hb⟩
  obtain ⟨i, hi, hib⟩ := hi
  have hcap : ¬ (2 ^ 48 < Builtin.nextslicecap (n + k) c * bytes) := by
    have := Nat.mul_le_mul_right bytes (nextcap_le (n + k) c hlt)
    rw [Nat.mul_assoc] at this
    omega
  have hcap' : ¬ (Builtin.nextslicecap (n + k) c * i.bytes > 2 ^ 48) := by rw [hib]; exact hcap
  have hib0 : ¬ (i.bytes = 0) := by rw [hib]; exact hb0
  let cap := Question.cut (.appendCap (n + k) c T) (w.tape w.drawn (.appendCap (n + k) c T))
  refine ⟨cap, by show n + k ≤ _ + _; omega, Builtin.zeroCells z.cells (cap - (n + k)), by simp [Builtin.zeroCells], ?_⟩
  have hc2 : ¬ (281474976710656 < Builtin.nextslicecap (n + k) c * i.bytes) := by simpa using hcap'
  have hfin : ∀ x : Array Value, (olds.toArray ++ (vs.toArray ++ x)) = (olds ++ vs).toArray ++ x := fun x => by rw [← Array.append_assoc]; congr 1; simp
  cases du <;> simp only [srcDesc, Bool.false_eq_true] at hnu
  · simp [Builtin.append_, h0, h1, run_underlying ht, run_underlying hu, run_sizeOf hz, hl, Nat.not_le.2 hlt, run_typeInfo hi, hib0, hc2, Question.forced, run_zeroValue hzv, Go.newRow, cap, hf, ho]
    rw [hfin]; rfl
  · simp [Builtin.append_, h0, h1, run_underlying ht, run_underlying hu, run_sizeOf hz, hl, Nat.not_le.2 hlt, run_typeInfo hi, hib0, hc2, Question.forced, run_zeroValue hzv, Go.newRow, cap, hf, ho]
    rw [hfin]; rfl

end Gls
