/- Walking in the view: what each operation on values and memory comes to. No condition. -/
import Derived.Test.YtfpkajhmelbbbaaGreatDoorGw
set_option linter.unusedVariables false
set_option linter.unusedSimpArgs false
namespace Gls
open Go
section
variable {h h' : AH} {k : AV → Prop} {K : AH → Prop} {e e' p p' x x' y y' v v' : AV}

@[simp high] theorem get_zero {α : Type} {a : α} {l : List α} : (a :: l)[0]? = some a := rfl
@[simp high] theorem get_succ {α : Type} {a : α} {l : List α} {n : Nat} : (a :: l)[n + 1]? = l[n]? := by simp
attribute [simp] AV.cells AV.known AV.noAgg fillA chunks chunk1
@[simp] theorem aPart_none {off : Nat} : xPart none e off k = bindO (e.cells[off]?) k := rfl
@[simp] theorem aPart_some {m off : Nat} : xPart (some m) e off k = need (off + m ≤ e.cells.length) (k (.agg ((e.cells.drop off).take m))) := rfl

@[simp] theorem aLoad_iptr {agg : Option Nat} {off : Nat} : xLoad agg (.iptr e off) h k = xPart agg e off k := rfl
@[simp] theorem aLoad_ptr {agg : Option Nat} {r : Ref} : xLoad agg (.ptr r) h k = bindO (h.arr r.ty r.id) fun es => bindO (es[r.idx]?) fun e => xPart agg e r.off k := rfl

@[simp] theorem aStore_ptr {sz : Nat} {r : Ref} : xStore sz (.ptr r) v h K = bindO (h.arr r.ty r.id) fun es => bindO (es[r.idx]?) fun e => need (0 < sz ∧ r.off + sz ≤ e.cells.length ∧ v.cells.length = sz ∧ flat v) (K (h.setArr r.ty r.id (some (es.set r.idx (putCells e r.off v))))) := by
  rfl

section
variable {kd kd' : IntKind} {a b : Int} {s t : List UInt8}
@[simp] theorem aBin_shl : xBin .shl (.int kd a) (.int kd' b) k = need (0 ≤ b) (k (.int kd (kd.wrap (a * 2 ^ (min b.toNat kd.bits))))) := rfl
@[simp] theorem aBin_shr : xBin .shr (.int kd a) (.int kd' b) k = need (0 ≤ b) (k (.int kd (a.fdiv (2 ^ (min b.toNat kd.bits))))) := rfl
@[simp] theorem aBin_add : xBin .add (.int kd a) (.int kd b) k = k (.int kd (kd.wrap (a + b))) := by simp [xBin, aBin]
@[simp] theorem aBin_sub : xBin .sub (.int kd a) (.int kd b) k = k (.int kd (kd.wrap (a - b))) := by simp [xBin, aBin]
@[simp] theorem aBin_mul : xBin .mul (.int kd a) (.int kd b) k = k (.int kd (kd.wrap (a * b))) := by simp [xBin, aBin]
@[simp] theorem aBin_quo : xBin .quo (.int kd a) (.int kd b) k = need (b ≠ 0) (k (.int kd (kd.wrap (a.tdiv b)))) := by simp [xBin, aBin, need]
@[simp] theorem aBin_rem : xBin .rem (.int kd a) (.int kd b) k = need (b ≠ 0) (k (.int kd (a.tmod b))) := by simp [xBin, aBin, need]
theorem aBin_and : xBin .and (.int kd a) (.int kd b) k = k (.int kd (kd.wrap (BitVec.ofInt kd.bits a &&& BitVec.ofInt kd.bits b).toNat)) := by simp [xBin, aBin]
theorem aBin_or : xBin .or (.int kd a) (.int kd b) k = k (.int kd (kd.wrap (BitVec.ofInt kd.bits a ||| BitVec.ofInt kd.bits b).toNat)) := by simp [xBin, aBin]
theorem aBin_xor : xBin .xor (.int kd a) (.int kd b) k = k (.int kd (kd.wrap (BitVec.ofInt kd.bits a ^^^ BitVec.ofInt kd.bits b).toNat)) := by simp [xBin, aBin]
theorem aBin_andNot : xBin .andNot (.int kd a) (.int kd b) k = k (.int kd (kd.wrap (BitVec.ofInt kd.bits a &&& ~~~ BitVec.ofInt kd.bits b).toNat)) := by simp [xBin, aBin]
@[simp] theorem aBin_eql : xBin .eql (.int kd a) (.int kd b) k = k (.bool (decide (a = b))) := by simp [xBin, aBin]; rfl
@[simp] theorem aBin_neq : xBin .neq (.int kd a) (.int kd b) k = k (.bool (decide (a ≠ b))) := by
  have : (a != b) = decide (a ≠ b) := by simp [bne, BEq.beq]
  simp only [xBin, aBin, true_and, this]
@[simp] theorem aBin_lss : xBin .lss (.int kd a) (.int kd b) k = k (.bool (decide (a < b))) := by simp [xBin, aBin]
@[simp] theorem aBin_leq : xBin .leq (.int kd a) (.int kd b) k = k (.bool (decide (a ≤ b))) := by simp [xBin, aBin]
@[simp] theorem aBin_gtr : xBin .gtr (.int kd a) (.int kd b) k = k (.bool (decide (b < a))) := by simp [xBin, aBin]
@[simp] theorem aBin_geq : xBin .geq (.int kd a) (.int kd b) k = k (.bool (decide (b ≤ a))) := by simp [xBin, aBin]
@[simp] theorem aBin_sadd : xBin .add (.str s) (.str t) k = need (s.length + t.length ≤ 9223372036854775807) (k (.str (s ++ t))) := rfl
@[simp] theorem aBin_seql : xBin .eql (.str s) (.str t) k = k (.bool (decide (s = t))) := by
  have : (s == t) = decide (s = t) := by by_cases h : s = t <;> simp [h]
  simp only [xBin, aBin, this]
@[simp] theorem aBin_sneq : xBin .neq (.str s) (.str t) k = k (.bool (decide (s ≠ t))) := by
  have : (!(s == t)) = decide (s ≠ t) := by by_cases h : s = t <;> simp [h]
  simp only [xBin, aBin, this]
@[simp] theorem aBin_slss : xBin .lss (.str s) (.str t) k = k (.bool (Op.bytesLess s t)) := rfl
@[simp] theorem aBin_sleq : xBin .leq (.str s) (.str t) k = k (.bool (Op.bytesLess s t || s == t)) := rfl
@[simp] theorem aBin_sgtr : xBin .gtr (.str s) (.str t) k = k (.bool !(Op.bytesLess s t || s == t)) := rfl
@[simp] theorem aBin_sgeq : xBin .geq (.str s) (.str t) k = k (.bool !(Op.bytesLess s t)) := rfl
@[simp] theorem aUn_not {b : Bool} : xUn .not (.bool b) k = k (.bool !b) := rfl
@[simp] theorem aUn_neg : xUn .neg (.int kd a) k = k (.int kd (kd.wrap (0 - a))) := rfl
@[simp] theorem aUn_xor : xUn .xor (.int kd a) k = k (.int kd (kd.wrap (BitVec.ofInt kd.bits (if kd.signed then -1 else kd.max) ^^^ BitVec.ofInt kd.bits a).toNat)) := rfl
end

section
variable {K : Nat → Prop} {d hi : Nat} {o o' : Option AV}
@[simp] theorem aBound_none : xBound none d hi K = K d := rfl
@[simp] theorem aBound_some {kd : IntKind} {i : Int} : xBound (some (.int kd i)) d hi K = need (0 ≤ i ∧ i ≤ hi) (K i.toNat) := rfl
end
section
variable {lo lo' hi hi' : Option AV} {s : List UInt8} {T sz n : Nat} {l : List AV} {r : Ref}
@[simp] theorem aSliceStr_str : xSliceStr (.str s) lo hi k = xBound hi s.length s.length fun h => xBound lo 0 h fun l => k (.str ((s.take h).drop l)) := rfl
@[simp] theorem aSliceSl_nils : xSliceSl T sz .nils lo hi k = xBound hi 0 0 fun h => xBound lo 0 h fun _ => k .nils := rfl
@[simp] theorem aSliceSl_vals : xSliceSl T sz (.vals n l) lo hi k = need (n = sz) (xBound hi l.length l.length fun h => xBound lo 0 h fun a => k (.vals sz ((l.take h).drop a))) := rfl
@[simp] theorem aSliceSl_slc : xSliceSl T sz (.slc r n) lo hi k = need (r.ty = T) (xBound hi n n fun h => xBound lo 0 h fun a => k (.slc { r with idx := r.idx + a } (h - a))) := rfl
@[simp] theorem aIdxAddrS_vals {kd : IntKind} {i : Int} : xIdxAddrS T sz (.vals n l) (.int kd i) k = need (n = sz ∧ 0 ≤ i) (bindO (l[i.toNat]?) fun e => k (.iptr e 0)) := by
  unfold xIdxAddrS aIdxAddrS need bindO; rw [and_assoc]
@[simp] theorem aIdxAddrS_slc {kd : IntKind} {i : Int} : xIdxAddrS T sz (.slc r n) (.int kd i) k = need (r.ty = T ∧ 0 ≤ i ∧ i < n) (k (.ptr { r with idx := r.idx + i.toNat })) := by
  unfold xIdxAddrS aIdxAddrS need; rw [and_assoc]
@[simp] theorem aIdxAddrA_ptr {len : Nat} {kd : IntKind} {i : Int} : xIdxAddrA len sz (.ptr r) (.int kd i) k = need (0 ≤ i ∧ i < len) (k (.ptr { r with off := r.off + i.toNat * sz })) := rfl
@[simp] theorem aIdxAddrA_iptr {len off : Nat} {kd : IntKind} {i : Int} : xIdxAddrA len sz (.iptr e off) (.int kd i) k = need (0 ≤ i ∧ i < len) (k (.iptr e (off + i.toNat * sz))) := rfl
@[simp] theorem aFieldAddr_ptr {o : Nat} : xFieldAddr o (.ptr r) k = k (.ptr { r with off := r.off + o }) := rfl
@[simp] theorem aFieldAddr_iptr {o off : Nat} : xFieldAddr o (.iptr e off) k = k (.iptr e (off + o)) := rfl
@[simp] theorem aIdxStr_str {kd : IntKind} {i : Int} : xIdxStr (.str s) (.int kd i) k = need (0 ≤ i) (bindO (s[i.toNat]?) fun b => k (.int .u8 b.toNat)) := rfl
@[simp] theorem aExtract_tup {i : Nat} {vs : List AV} : xExtract (.tup vs) i k = bindO (vs[i]?) k := rfl
@[simp] theorem aLenSl_nils : xLenSl .nils k = k (.int .i64 0) := rfl
@[simp] theorem aLenSl_vals : xLenSl (.vals n l) k = k (.int .i64 l.length) := rfl
@[simp] theorem aLenSl_slc : xLenSl (.slc r n) k = k (.int .i64 n) := rfl
section
variable {K : List AV → Prop}
@[simp] theorem aElems_nils : xElems T sz .nils h K = K [] := rfl
@[simp] theorem aElems_vals : xElems T sz (.vals n l) h K = need (n = sz) (K l) := rfl
@[simp] theorem aElems_slc : xElems T sz (.slc r n) h K = need (r.ty = T ∧ r.off = 0) (bindO (h.arr r.ty r.id) fun es => need (r.idx + n ≤ es.length) (K ((es.drop r.idx).take n))) := by
  unfold xElems aElems need bindO; rw [and_assoc]
@[simp] theorem aElems_str : xElems T sz (.str s) h K = need (sz = 1) (K (s.map fun b => .int .u8 b.toNat)) := rfl
end
section
variable {K : AV → AH → Prop} {bytes : Nat} {xs : List AV}
def appV (T bytes : Nat) (s : AV) (xs : List AV) (h : AH) (K : AV → AH → Prop) (f : Frz K := .mk) : Prop := match s with
    | .nils => need (xs.length * bytes ≤ 2 ^ 47) (K (.slc ⟨T, h.next, 0, 0⟩ xs.length) (h.push T xs))
    | .slc r n => need (r.ty = T ∧ r.off = 0) (bindO (h.arr r.ty r.id) fun es => need (r.idx + n ≤ es.length)
        (splitP (r.idx + n + xs.length ≤ es.length ∧ r.idx + n < es.length) (K (.slc r (n + xs.length)) (h.setArr r.ty r.id (some (setRange es (r.idx + n) xs))))
        (need ((n + xs.length) * bytes ≤ 2 ^ 47) (K (.slc ⟨T, h.next, 0, 0⟩ (n + xs.length)) ((h.setArr r.ty r.id none).push T ((es.drop r.idx).take n ++ xs))))))
    | _ => False
@[simp] theorem appV_nils : appV T bytes .nils xs h K = need (xs.length * bytes ≤ 2 ^ 47) (K (.slc ⟨T, h.next, 0, 0⟩ xs.length) (h.push T xs)) := rfl
@[simp] theorem appV_slc : appV T bytes (.slc r n) xs h K = need (r.ty = T ∧ r.off = 0) (bindO (h.arr r.ty r.id) fun es => need (r.idx + n ≤ es.length)
        (splitP (r.idx + n + xs.length ≤ es.length ∧ r.idx + n < es.length) (K (.slc r (n + xs.length)) (h.setArr r.ty r.id (some (setRange es (r.idx + n) xs))))
        (need ((n + xs.length) * bytes ≤ 2 ^ 47) (K (.slc ⟨T, h.next, 0, 0⟩ (n + xs.length)) ((h.setArr r.ty r.id none).push T ((es.drop r.idx).take n ++ xs)))))) := rfl
theorem ite_splitP {c A B : Prop} [Decidable c] : (if c then A else B) = splitP c A B := by
  unfold splitP; by_cases h : c <;> simp [h]
theorem aAppend_eq : xAppend T sz bytes x y h K = xElems T sz y h fun xs => need (0 < sz ∧ ∀ e ∈ xs, flat e ∧ e.cells.length = sz) (appV T bytes x xs h K) := by
  unfold xAppend aAppend xElems
  congr 1
  funext xs
  unfold need
  congr 1
  unfold appV
  split
  · rfl
  · simp only [need, bindO, ite_splitP, and_assoc]
  · rename_i h1 h2
    split
    · exact absurd rfl h1
    · exact absurd rfl (h2 _ _)
    · rfl
@[simp] theorem aCopy_slc : xCopy T sz (.slc r n) y h K = xElems T sz y h fun xs => need ((∀ e ∈ xs, flat e ∧ e.cells.length = sz) ∧ r.ty = T ∧ r.off = 0) (bindO (h.arr r.ty r.id) fun es => need (r.idx + n ≤ es.length)
    (K (.int .i64 ((min xs.length n : Nat) : Int)) (h.setArr r.ty r.id (some (setRange es r.idx (xs.take n)))))) := by
  unfold xCopy aCopy xElems need bindO; simp only [and_assoc]
@[simp] theorem aMakeSlice_int {z : AV} {k1 k2 : IntKind} {l c : Int} : xMakeSlice T sz bytes z (.int k1 l) (.int k2 c) h K = need ((0 < sz ∧ z.cells.length = sz ∧ flat z) ∧ (0 ≤ l ∧ l ≤ c ∧ c ≤ 9223372036854775807 ∧ bytes * c ≤ 2 ^ 48))
    (K (.slc ⟨T, h.next, 0, 0⟩ l.toNat) (h.push T (List.replicate c.toNat z))) := by
  unfold xMakeSlice aMakeSlice need; simp only [and_assoc]
end
section
variable {m m' : AV} {es : List (AV × AV)} {t i : Nat} {ck : CK}
section
variable {K : List (AV × AV) → Prop}
@[simp] theorem aEnts_nilm : xEnts .nilm h K = K [] := rfl
@[simp] theorem aEnts_map : xEnts (.map t i) h K = bindO (h.map t i) K := rfl
@[simp] theorem aEnts_imap : xEnts (.imap es) h K = K es := rfl
end
@[simp] theorem aLookup_eq {z : AV} {ok : Bool} {k1 : AV} : xLookup ck z ok m k1 h k = xEnts m h fun es => bindO (aFind ck k1 es) fun r => k (if ok then .tup [r.getD z, .bool r.isSome] else r.getD z) := rfl
@[simp] theorem aMapUpdate_map {k1 : AV} : xMapUpdate ck (.map t i) k1 v h K = need (h.noItr t i) (bindO (h.map t i) fun es => bindO (aPut ck k1 v es) fun es' => K (h.setMap t i (some es'))) := rfl
@[simp] theorem aLenMap_eq : xLenMap m h k = xEnts m h fun es => k (.int .i64 es.length) := rfl
section
variable {K : AV → AH → Prop}
@[simp] theorem aRange_eq : xRange m h K = xEnts m h fun es => K (.itr h.next) (h.pushItr ⟨mapId m, es, none⟩) := rfl
def nextV (a : AItr) (i : Nat) (h : AH) (K : AV → AH → Prop) (f : Frz K := .mk) : Prop := (a.rest = [] → K (.tup [.bool false]) h) ∧ ∀ j e, a.rest[j]? = some e → K (.tup [.bool true, e.1, e.2]) (h.setItr i (some ⟨a.src, a.rest.eraseIdx j, some e⟩))
@[simp] theorem aNext_itr : xNext (.itr i) h K = bindO (h.itr i) fun a => nextV a i h K := rfl
end
@[simp] theorem aEntry_itr : xEntry (.itr i) h k = bindO (h.itr i) fun a => bindO a.cur fun e => k (.tup [e.1, e.2]) := rfl
attribute [simp] mapId
end
end
end

-- memory
section
variable {h : AH} {t i t' i' : Nat} {o : AObj} {es : List AV} {m : AMap} {l : List (AV × AV)} {a : Option AItr} {it : AItr}
@[simp] theorem arr_set : (h.setArr t i o).arr t' i' = if t' = t ∧ i' = i then o else h.arr t' i' := rfl
@[simp] theorem arr_setMap : (h.setMap t i m).arr = h.arr := rfl
@[simp] theorem arr_setItr : (h.setItr i a).arr = h.arr := rfl
@[simp] theorem arr_bump {n : Nat} : (h.bump n).arr = h.arr := rfl
@[simp] theorem arr_push : (h.push t es).arr t' i' = if t' = t ∧ i' = h.next then some es else h.arr t' i' := rfl
@[simp] theorem arr_pushMap : (h.pushMap t l).arr = h.arr := rfl
@[simp] theorem arr_pushItr : (h.pushItr it).arr = h.arr := rfl
@[simp] theorem map_setArr : (h.setArr t i o).map = h.map := rfl
@[simp] theorem map_setMap : (h.setMap t i m).map t' i' = if t' = t ∧ i' = i then m else h.map t' i' := rfl
@[simp] theorem map_setItr : (h.setItr i a).map = h.map := rfl
@[simp] theorem map_bump {n : Nat} : (h.bump n).map = h.map := rfl
@[simp] theorem map_push : (h.push t es).map = h.map := rfl
@[simp] theorem map_pushMap : (h.pushMap t l).map t' i' = if t' = t ∧ i' = h.next then some l else h.map t' i' := rfl
@[simp] theorem map_pushItr : (h.pushItr it).map = h.map := rfl
@[simp] theorem itr_setArr : (h.setArr t i o).itr = h.itr := rfl
@[simp] theorem itr_setMap : (h.setMap t i m).itr = h.itr := rfl
@[simp] theorem itr_setItr : (h.setItr i a).itr i' = if i' = i then a else h.itr i' := rfl
@[simp] theorem itr_bump {n : Nat} : (h.bump n).itr = h.itr := rfl
@[simp] theorem itr_push : (h.push t es).itr = h.itr := rfl
@[simp] theorem itr_pushMap : (h.pushMap t l).itr = h.itr := rfl
@[simp] theorem itr_pushItr : (h.pushItr it).itr i' = if i' = h.next then some it else h.itr i' := rfl
@[simp] theorem next_setArr : (h.setArr t i o).next = h.next := rfl
@[simp] theorem next_setMap : (h.setMap t i m).next = h.next := rfl
@[simp] theorem next_setItr : (h.setItr i a).next = h.next := rfl
@[simp] theorem next_bump {n : Nat} : (h.bump n).next = n := rfl
@[simp] theorem next_push : (h.push t es).next = h.next + 1 := rfl
@[simp] theorem next_pushMap : (h.pushMap t l).next = h.next + 1 := rfl
@[simp] theorem next_pushItr : (h.pushItr it).next = h.next + 1 := rfl
end

-- equality
attribute [simp] aEq eqCell eqCells resV

-- results
section
variable {P : Program} {rs : List RV} {Q : AV → AH → Prop} {σ σ' : Env} {h h' : AH} {K : List AV → Prop}
def xRes (rs : List RV) (σ : Env) (h : AH) (K : List AV → Prop) (f : Frz K := .mk) : Prop := wpRes rs σ h K
@[simp ↓] theorem RetPost_normal : RetPost rs Q .normal σ h = xRes rs σ h fun vs => Q (resV vs) h := rfl
@[simp ↓] theorem RetPost_ret : RetPost rs Q .ret σ h = xRes rs σ h fun vs => Q (resV vs) h := rfl
@[simp ↓] theorem RetPost_exit {i : Nat} : RetPost rs Q (.exit i) σ h = False := rfl
@[simp ↓] theorem xRes_nil : xRes [] σ h K = K [] := rfl
@[simp ↓] theorem xRes_tmp {t : Nat} : xRes (.tmp t :: rs) σ h K = xRes rs σ h fun vs => K (σ t :: vs) := rfl
@[simp ↓] theorem xRes_cell {t : Nat} {agg : Option Nat} : xRes (.cell t agg :: rs) σ h K = xLoad agg (σ t) h fun v => xRes rs σ h fun vs => K (v :: vs) := rfl

/-- A function of the program, with its code in the view. -/
def IsFn (P : Program) (f nt : Nat) (c : ACode) (rs : List RV) : Prop := ∃ fn code, P.funcs[f]? = some fn ∧ fn.body = some code ∧ fn.ntmps = nt ∧ cCode P nt code = some c ∧ cRes P fn.results.toList = some rs
theorem ACalls_fn (hm : P.follows .mixedOrders = true) {f nt : Nat} {c : ACode} {vs : List AV} (F : IsFn P f nt c rs) (hn : vs.length ≤ nt) (H : h.WF → xCode P nt c (initEnv vs) h (RetPost rs Q)) : ACalls P f vs h Q := by
  obtain ⟨fn, code, h1, h2, rfl, h3, h4⟩ := F
  exact ACalls_of hm h1 h2 h3 h4 hn H
theorem ACalls.mono {f : Nat} {vs : List AV} {Q Q' : AV → AH → Prop} (H : ACalls P f vs h Q) (k : ∀ v h', Q v h' → Q' v h') : ACalls P f vs h Q' := fun m w cs a b => Calls.mono (H m w cs a b) fun e w' ⟨m', v, h', c, h1, h2, h3, h4, h5⟩ => ⟨m', v, h', c, h1, h2, h3, h4, k _ _ h5⟩
/-- A call that changes nothing that was there, and hands back one value. -/
def PCalls (P : Program) (f : Nat) (vs : List AV) (h : AH) (v : AV) : Prop := ACalls P f vs h fun v' h' => v' = v ∧ ∃ n, h' = h.bump n ∧ h.next ≤ n
theorem PCalls.mk {f : Nat} {vs : List AV} {v : AV} (H : ACalls P f vs h fun v' h' => v' = v ∧ h' = h) : PCalls P f vs h v := H.mono fun v' h' ⟨a, b⟩ => ⟨a, h.next, b, Nat.le_refl _⟩
theorem PCalls.use {f : Nat} {vs : List AV} {v : AV} (H : PCalls P f vs h v) (k : ∀ n, h.next ≤ n → Q v (h.bump n)) : xCalls P f vs h Q := H.mono fun v' h' ⟨a, n, b, c⟩ => by rw [a, b]; exact k n c
theorem bump_self : h.bump h.next = h := rfl
@[simp] theorem bump_bump {a b : Nat} : (h.bump a).bump b = h.bump b := rfl
end
end Gls
