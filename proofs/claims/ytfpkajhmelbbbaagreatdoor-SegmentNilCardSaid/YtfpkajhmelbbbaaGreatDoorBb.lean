/- strings.Builder's copyCheck and String in the view. No condition. -/
import Derived.Test.YtfpkajhmelbbbaaGreatDoorBa
import Derived.Test.YtfpkajhmelbbbaaGreatDoorC0
import Derived.Test.YtfpkajhmelbbbaaGreatDoorC1
import Derived.Test.YtfpkajhmelbbbaaGreatDoorC2
import Derived.Test.YtfpkajhmelbbbaaGreatDoorC3
import Derived.Test.YtfpkajhmelbbbaaGreatDoorEc
import Derived.Test.YtfpkajhmelbbbaaGreatDoorHa
set_option linter.unusedVariables false
set_option linter.unusedSimpArgs false
namespace Gls
open Go Go.Proofs

theorem setCell_putBlk {w : World} {b o t : Nat} {c : Array Value} {fr : Nat × Nat} {v : Value} (h : w.heap[b]? = some (.cells c t fr)) : w.setCell ⟨b, o, none⟩ v = putBlk w b (.cells (putAt c o [v]) t fr) := by
  unfold World.setCell putBlk putAt putAt
  congr 1
  apply Array.ext_getElem?
  intro i
  rw [Array.getElem?_modify, Array.getElem?_setIfInBounds]
  by_cases hi : b = i
  · subst hi
    rw [if_pos rfl, if_pos rfl, h]
    have := (Array.getElem?_eq_some_iff.1 h).1
    simp [this]
  · rw [if_neg hi, if_neg hi]

theorem setArr_same {h : AH} {t i : Nat} {es : List AV} (e : h.arr t i = some es) : h.setArr t i (some es) = h := by
  unfold AH.setArr
  congr 1
  funext t' i'
  split
  · rename_i x; rw [x.1, x.2, e]
  · rfl

theorem set_same {α : Type} {l : List α} {i : Nat} {a : α} (h : l[i]? = some a) : l.set i a = l := by
  apply List.ext_getElem?
  intro j
  rw [List.getElem?_set]
  by_cases hj : i = j
  · subst hj
    have := (List.getElem?_eq_some_iff.1 h).1
    rw [if_pos rfl, if_pos this, h]
  · rw [if_neg hj]

theorem ptr_eq {m : Emb} {r : Ref} {c : Value} (h : VRel m (.ptr r) c) : ∃ L, m.loc r.ty r.id = some L ∧ c = .pointer (some (L.addr r)) := by
  cases h with | ptr _ L e => exact ⟨L, e, rfl⟩

theorem copyCheck_ok (h : AH) (r : Ref) (es : List AV) (a buf : AV) (ht : r.ty = 99) (ho : r.off = 0) (he : h.arr r.ty r.id = some es) (hi : es[r.idx]? = some (.agg [a, buf])) (ha : a = .nilp ∨ a = .ptr r) :
    ACalls Tryz.prog 69 [.ptr r] h fun v h' => v = .tup [] ∧ h' = h.setArr r.ty r.id (some (es.set r.idx (.agg [.ptr r, buf]))) := by
  intro m w cs R hv
  obtain ⟨c, cs', rfl, hc, hnil⟩ := hv.inv_cons
  obtain rfl := hnil.inv_nil
  obtain ⟨L, hL, rfl⟩ := ptr_eq hc
  obtain ⟨L', hL', la⟩ := R.live _ _ _ he
  rw [hL] at hL'; cases hL'
  obtain ⟨hsz, hbase⟩ := R.sized _ _ _ hL
  have hsz2 : L.sz = 2 := by
    have : sizeOf? Tryz.prog 99 = some 2 := by kernel_rfl
    rw [ht, this] at hsz; exact (Option.some.inj hsz).symm
  have hlt : r.idx < es.length := (List.getElem?_eq_some_iff.1 hi).1
  have hmem : (AV.agg [a, buf]) ∈ es := List.mem_of_getElem? hi
  have hmul : (r.idx + 1) * L.sz ≤ es.length * L.sz := Nat.mul_le_mul_right _ hlt
  have hroom := la.room
  rw [hsz2] at hroom hmul hbase
  have hnum : 0 < L.num := by omega
  obtain ⟨cc, fr, b1, b2, b3, b4⟩ := la.cells hnum
  have addr : L.addr r = ⟨L.blk, L.base + r.idx * 2, none⟩ := by simp [Loc.addr, ho, hsz2]
  have hget : ∀ j, j < 2 → (flatC es)[r.idx * 2 + j]? = ([a, buf] : List AV)[j]? := fun j hj => by
    have := flatC_get (sz := L.sz) la.size hi (j := j) (by omega)
    rw [hsz2] at this; exact this
  obtain ⟨v0, k1, k2⟩ := b4 (r.idx * 2) a (by have := hget 0 (by omega); simpa using this)
  have hc0 : w.cell? ⟨L.blk, L.base + r.idx * 2, none⟩ = some v0 := by simp [World.cell?, b1, k1]
  rw [addr]
  rcases ha with rfl | rfl
  · have hv0 : v0 = .pointer none := by cases k2; rfl
    subst hv0
    have hsh : w.shape? L.blk = some (99, L.num) := by simp [World.shape?, b1, b2, ht]
    have hfz : w.frozen? ⟨L.blk, L.base + r.idx * 2, none⟩ = false := by
      have := b3 (L.base + r.idx * 2) (by omega)
      simp only [World.frozen?, b1]
      simpa using this
    refine Calls.mono (copyCheck_fresh w L.blk (L.base + r.idx * 2) L.num hc0 hsh hfz (by omega) (by omega)) ?_
    rintro e w' ⟨rfl, rfl⟩
    have hfle := flatC_length la.size
    rw [hsz2] at hfle
    have hvr : VRels m [.ptr r] [.pointer (some ⟨L.blk, L.base + r.idx * 2, none⟩)] := .cons (by rw [← addr]; exact hc) .nil
    obtain ⟨c', fr', g1, g2, g3⟩ := la.poke (P := Tryz.prog) (es' := es.set r.idx (.agg [.ptr r, buf])) (p := r.idx * 2 + 0) hvr (by simp)
      (fun x hx => by
        rcases List.mem_or_eq_of_mem_set hx with hx | rfl
        · exact la.size x hx
        · simp [hsz2])
      (fun x u hx hu => by
        rcases List.mem_or_eq_of_mem_set hx with hx | rfl
        · exact la.flat x u hx hu
        · have hb : buf.noAgg = true := la.flat _ buf hmem (by simp)
          simp at hu
          rcases hu with rfl | rfl
          · rfl
          · exact hb)
      (by
        have hput : (AV.agg [.ptr r, buf]).cells = setRange (AV.agg [.nilp, buf]).cells 0 [.ptr r] := rfl
        rw [set_eq_setRange _ _ _ hlt, flatC_setRange la.size (by simp [hsz2]) (by simp; omega)]
        simp only [flatC, List.flatMap_cons, List.flatMap_nil, List.append_nil]
        rw [hput, hsz2]
        exact setRange_setRange _ _ _ _ _ (by show r.idx * 2 + 2 ≤ (flatC es).length; omega) (by simp) (fun k hk => by
          have := flatC_get la.size hi (j := k) (by rw [hsz2]; simpa using hk)
          rw [hsz2] at this; exact this))
      (by simp; omega) (by simp) (by simp)
    rw [b1] at g1; cases g1
    have H2 := R.pokeArr he hL la hnum g3
    refine ⟨m, .tup [], _, _, .refl m, ?_, rfl, .tup_of .nil, rfl, rfl⟩
    rw [setCell_putBlk b1]; exact H2
  · obtain ⟨L2, hL2, hv0⟩ := ptr_eq k2
    rw [hL] at hL2; cases hL2
    rw [addr] at hv0; subst hv0
    refine Calls.mono (copyCheck_used w L.blk (L.base + r.idx * 2) hc0) ?_
    rintro e w' ⟨rfl, rfl⟩
    refine ⟨m, .tup [], h, _, .refl m, R, rfl, .tup_of .nil, rfl, ?_⟩
    rw [set_same hi, setArr_same he]

theorem bytesV_get {l : List UInt8} {j : Nat} {x : UInt8} (h : l[j]? = some x) : (bytesV l)[j]? = some (.int .u8 x.toNat) := by simp [bytesV, h]
theorem flatC_bytesV {l : List UInt8} : flatC (bytesV l) = bytesV l := by
  induction l with
  | nil => rfl
  | cons b l ih => simp [flatC] at ih ⊢; exact ih

theorem freeze_blk {w : World} {a : Addr} {n b : Nat} (hb : b ≠ a.block) : (w.freeze a n).heap[b]? = w.heap[b]? := by
  unfold World.freeze
  split
  · rfl
  · simp only [Array.getElem?_modify]; rw [if_neg (fun e => hb e.symm)]
theorem freeze_size {w : World} {a : Addr} {n : Nat} : (w.freeze a n).heap.size = w.heap.size := by
  unfold World.freeze
  split <;> simp
theorem freeze_os {w : World} {a : Addr} {n : Nat} : (w.freeze a n).os = w.os ∧ (w.freeze a n).tape = w.tape ∧ (w.freeze a n).output = w.output := by
  unfold World.freeze
  split <;> exact ⟨rfl, rfl, rfl⟩

theorem BString_ok (h : AH) (r q : Ref) (es xs : List AV) (a : AV) (l : List UInt8) (ht : r.ty = 99) (ho : r.off = 0) (he : h.arr r.ty r.id = some es) (hi : es[r.idx]? = some (.agg [a, .slc q l.length]))
    (qt : q.ty = 5) (qo : q.off = 0) (hx : h.arr q.ty q.id = some xs) (hq : q.idx + l.length ≤ xs.length) (hl : (xs.drop q.idx).take l.length = bytesV l) (h0 : l ≠ []) (h63 : l.length ≤ 9223372036854775807) :
    ACalls Tryz.prog 44 [.ptr r] h fun v h' => v = .str l ∧ h' = h.setArr q.ty q.id none := by
  intro m w cs R hv
  obtain ⟨c, cs', rfl, hc, hnil⟩ := hv.inv_cons
  obtain rfl := hnil.inv_nil
  obtain ⟨L, hL, rfl⟩ := ptr_eq hc
  obtain ⟨L', hL', la⟩ := R.live _ _ _ he
  rw [hL] at hL'; cases hL'
  obtain ⟨hsz, hbase⟩ := R.sized _ _ _ hL
  have hsz2 : L.sz = 2 := by
    have : sizeOf? Tryz.prog 99 = some 2 := by kernel_rfl
    rw [ht, this] at hsz; exact (Option.some.inj hsz).symm
  have hlt : r.idx < es.length := (List.getElem?_eq_some_iff.1 hi).1
  have hmul : (r.idx + 1) * L.sz ≤ es.length * L.sz := Nat.mul_le_mul_right _ hlt
  have hroom := la.room
  rw [hsz2] at hroom hmul hbase
  have hnum : 0 < L.num := by omega
  obtain ⟨cc, fr, b1, b2, b3, b4⟩ := la.cells hnum
  have addr : L.addr r = ⟨L.blk, L.base + r.idx * 2, none⟩ := by simp [Loc.addr, ho, hsz2]
  obtain ⟨v1, k1, k2⟩ := b4 (r.idx * 2 + 1) (.slc q l.length) (by
    have := flatC_get (sz := L.sz) la.size hi (j := 1) (by omega)
    rw [hsz2] at this; exact this)
  have hl0 : 0 < l.length := List.length_pos_iff.2 h0
  obtain ⟨M, hM, lb⟩ := R.live _ _ _ hx
  obtain ⟨msz, mbase⟩ := R.sized _ _ _ hM
  have msz1 : M.sz = 1 := by
    have : sizeOf? Tryz.prog 5 = some 1 := by kernel_rfl
    rw [qt, this] at msz; exact (Option.some.inj msz).symm
  have mroom := lb.room
  rw [msz1] at mroom
  have mnum : 0 < M.num := by omega
  obtain ⟨dd, fs, d1, d2, d3, d4⟩ := lb.cells mnum
  obtain ⟨cap, hcap, hv1⟩ : ∃ cap, l.length ≤ cap ∧ v1 = .slice (some ⟨M.blk, M.base + q.idx, none⟩) l.length cap := by
    generalize hn : l.length = n at k2
    cases k2 with
    | slc _ _ M' c e g1 g2 g3 g4 g5 g6 =>
      rw [hM] at e; cases e
      exact ⟨c, g1, by simp [Loc.addr, qo, msz1]⟩
    | slc0 _ _ _ _ => omega
  subst hv1
  have c1 : w.cell? ⟨L.blk, L.base + r.idx * 2 + 1, none⟩ = some (.slice (some ⟨M.blk, M.base + q.idx, none⟩) l.length cap) := by
    simp only [World.cell?, b1]; simpa [Nat.add_assoc] using k1
  have hsh : w.shape? M.blk = some (5, M.num) := by simp [World.shape?, d1, d2, qt]
  have hmax : xs.length ≤ M.num := by omega
  have hfl : ∀ j x, l[j]? = some x → ∃ v, dd[M.base + (q.idx + j)]? = some v ∧ VRel m (.int .u8 x.toNat) v := fun j x hj => by
    refine d4 (q.idx + j) _ ?_
    have hj' := (List.getElem?_eq_some_iff.1 hj).1
    have := flatC_part (sz := M.sz) (i := q.idx) (n := l.length) (j := j) lb.size hq (by rw [msz1]; omega)
    rw [msz1, Nat.mul_one] at this
    rw [this, hl, flatC_bytesV]; exact bytesV_get hj
  have hcell : ∀ j x, l[j]? = some x → w.cell? ((⟨M.blk, M.base + q.idx, none⟩ : Addr).add j) = some (.int .u8 x.toNat) := fun j x hj => by
    obtain ⟨v, v1, v2⟩ := hfl j x hj
    have : v = .int .u8 x.toNat := by cases v2; rfl
    subst this
    rw [← Nat.add_assoc] at v1
    unfold Addr.add
    split
    · rename_i hj0; subst hj0; simp only [World.cell?, d1]; simpa using v1
    · simp only [World.cell?, d1]; simpa using v1
  rw [addr]
  refine Calls.mono (String_run w L.blk (L.base + r.idx * 2) M.blk (M.base + q.idx) cap M.num l c1 hsh h0 hcap (by omega) h63 hcell) ?_
  rintro e w' ⟨rfl, rfl⟩
  refine ⟨m, .str l, _, _, .refl m, ?_, rfl, .str _, rfl, rfl⟩
  have H1 := R.dropArr q.ty q.id
  obtain ⟨o1, o2, o3⟩ := freeze_os (w := w.drew) (a := ⟨M.blk, M.base + q.idx, none⟩) (n := l.length)
  exact H1.poke (lb.nobody R hx hM mnum) o1 o2 o3 freeze_size fun b hb => freeze_blk hb
end Gls
