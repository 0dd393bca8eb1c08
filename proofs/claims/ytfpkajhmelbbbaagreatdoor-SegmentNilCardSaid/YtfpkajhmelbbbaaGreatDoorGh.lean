/- The operations that leave memory alone: what the view says of their answer holds of the model's. No condition. -/
import Derived.Test.YtfpkajhmelbbbaaGreatDoorGg
set_option linter.unusedVariables false
set_option linter.unusedSimpArgs false
namespace Gls
open Go
variable {P : Program} {m : Emb} {h : AH} {w : World}

theorem VRel.nilp_inv {c : Value} (h : VRel m .nilp c) : c = .pointer none := by cases h; rfl
theorem VRel.ptr_inv {r : Ref} {c : Value} (h : VRel m (.ptr r) c) : ∃ a, c = .pointer (some a) := by cases h; exact ⟨_, rfl⟩
theorem VRel.iptr_inv {e : AV} {o : Nat} {c : Value} (h : VRel m (.iptr e o) c) : ∃ a, c = .pointer (some a) := by cases h; exact ⟨_, rfl⟩
theorem VRel.nili_inv {c : Value} (h : VRel m .nili c) : c = .nilIface := by cases h; rfl
theorem VRel.iface_inv {t : Nat} {v : AV} {c : Value} (h : VRel m (.iface t v) c) : ∃ x, c = .iface t x ∧ VRel m v x := by cases h; exact ⟨_, rfl, ‹_›⟩
theorem VRel.nilf_inv {c : Value} (h : VRel m .nilf c) : c = .nilFunc := by cases h; rfl
theorem VRel.fn_inv {f : Fn} {a b : List AV} {c : Value} (h : VRel m (.fn f a b) c) : ∃ x y, c = .func f x y ∧ VRels m a x.toList ∧ VRels m b y.toList := by
  cases h with
  | fn _ _ _ x y h1 h2 h3 h4 => exact ⟨x, y, rfl, ⟨by simp [h1], fun i v c e e' => h3 i v c e (by simpa using e')⟩, ⟨by simp [h2], fun i v c e e' => h4 i v c e (by simpa using e')⟩⟩
theorem VRel.nilm_inv {c : Value} (h : VRel m .nilm c) : c = .map none := by cases h; rfl
theorem VRel.map_inv {t i : Nat} {c : Value} (h : VRel m (.map t i) c) : ∃ r, c = .map (some r) ∧ m.mloc t i = some r := by cases h; exact ⟨_, rfl, ‹_›⟩
theorem VRel.imap_inv {es : List (AV × AV)} {c : Value} (h : VRel m (.imap es) c) : ∃ r ces clock, c = .map (some r) ∧ m.imm r = some (.map ces clock) ∧ es.length = ces.size ∧
      (∀ (i : Nat) (e : AV × AV) (c : MapEntry), es[i]? = some e → ces[i]? = some c → VRel m e.1 c.key) ∧
      (∀ (i : Nat) (e : AV × AV) (c : MapEntry), es[i]? = some e → ces[i]? = some c → VRel m e.2 c.val) ∧ Born ces clock := by
  cases h; exact ⟨_, _, _, rfl, ‹_›, ‹_›, ‹_›, ‹_›, ‹_›⟩
theorem VRel.itr_inv {i : Nat} {c : Value} (h : VRel m (.itr i) c) : ∃ r, c = .pointer (some ⟨r, 0, none⟩) ∧ m.iloc i = some r := by cases h; exact ⟨_, rfl, ‹_›⟩
theorem VRel.agg_inv {cs : List AV} {c : Value} (h : VRel m (.agg cs) c) : ∃ a, c = .agg a ∧ VRels m cs a.toList := by
  cases h with | agg _ a h1 h2 => exact ⟨a, rfl, by simp [h1], fun i v c e e' => h2 i v c e (by simpa using e')⟩
theorem VRel.tup_inv {cs : List AV} {c : Value} (h : VRel m (.tup cs) c) : ∃ a, c = .tuple a ∧ VRels m cs a.toList := by
  cases h with | tup _ a h1 h2 => exact ⟨a, rfl, by simp [h1], fun i v c e e' => h2 i v c e (by simpa using e')⟩
theorem VRels.get {vs : List AV} {cs : List Value} (h : VRels m vs cs) {i : Nat} {v : AV} (e : vs[i]? = some v) : ∃ c, cs[i]? = some c ∧ VRel m v c := by
  have hlt : i < cs.length := by have := (List.getElem?_eq_some_iff.1 e).1; have := h.1; omega
  exact ⟨cs[i], by simp [hlt], h.2 i v _ e (by simp [hlt])⟩

theorem eql_sound {op : BinOp} {neg : Bool} {xt : Nat} {x y : Operand} {cx cy : Value} {b : Bool} (hop : (op = .eql ∧ neg = false) ∨ (op = .neq ∧ neg = true))
    (hg : (eqGuard op xt x y cx cy).run P w = .ok () w) (h1 : binOp .eql xt cx cy = Op.equal xt cx cy >>= fun b => pure (.bool b)) (h2 : binOp .neq xt cx cy = Op.equal xt cx cy >>= fun b => pure (.bool (!b)))
    (he : (Op.equal xt cx cy).run P w = .ok b w) :
    (do eqGuard op xt x y cx cy; binOp op xt cx cy : Sem Value).run P w = .ok (.bool (if neg then !b else b)) w := by
  rcases hop with ⟨rfl, rfl⟩ | ⟨rfl, rfl⟩
  · simp [hg, h1, he]
  · simp [hg, h2, he]

theorem eqKind_inv {xt : Nat} {x y : Operand} {k : EqK} (h : eqKind P xt x y = some k) :
    match k with
    | .bool => P.underlying xt = some .bool
    | .ptr => ∃ e, P.underlying xt = some (.pointer e)
    | .iface c => (∃ ms, P.underlying xt = some (.interface ms)) ∧ c = (isC x || isC y)
    | .func => ∃ a b c, P.underlying xt = some (.func a b c)
    | .map => ∃ a b, P.underlying xt = some (.map a b)
    | .struct os => ∃ fs, P.underlying xt = some (.struct fs) ∧ P.stoodInHeld xt = false ∧ P.eqGuardType P.depth xt = false ∧ eqOffs P fs.toList = some os := by
  unfold eqKind at h
  split at h
  · cases h; assumption
  · cases h; exact ⟨_, ‹_›⟩
  · cases h; exact ⟨⟨_, ‹_›⟩, rfl⟩
  · cases h; exact ⟨_, _, _, ‹_›⟩
  · cases h; exact ⟨_, _, ‹_›⟩
  · split at h
    · cases h
    · rename_i hu hc
      rw [Bool.or_eq_true, not_or] at hc
      cases ho : eqOffs P _ with
      | none => rw [ho] at h; cases h
      | some os => rw [ho] at h; cases h; exact ⟨_, hu, by simpa using hc.1, by simpa using hc.2, ho⟩
  · cases h

theorem eqIn_pn (d t e : Nat) (b : Option Addr) (hu : P.underlying t = some (.pointer e)) : (Op.equalIn (d + 1) t (.pointer none) (.pointer b)).run P w = .ok b.isNone w := by simp [Op.equalIn, run_underlying hu]
theorem eqIn_np (d t e : Nat) (a : Addr) (hu : P.underlying t = some (.pointer e)) : (Op.equalIn (d + 1) t (.pointer (some a)) (.pointer none)).run P w = .ok false w := by simp [Op.equalIn, run_underlying hu]
theorem eqIn_ii (d t : Nat) (ms : Array (String × TypeId)) (hu : P.underlying t = some (.interface ms)) : (Op.equalIn (d + 1) t .nilIface .nilIface).run P w = .ok true w := by simp [Op.equalIn, run_underlying hu]
theorem eqIn_iv (d t u : Nat) (x : Value) (ms : Array (String × TypeId)) (hu : P.underlying t = some (.interface ms)) : (Op.equalIn (d + 1) t .nilIface (.iface u x)).run P w = .ok false w := by simp [Op.equalIn, run_underlying hu]
theorem eqIn_vi (d t u : Nat) (x : Value) (ms : Array (String × TypeId)) (hu : P.underlying t = some (.interface ms)) : (Op.equalIn (d + 1) t (.iface u x) .nilIface).run P w = .ok false w := by simp [Op.equalIn, run_underlying hu]
theorem eqIn_ff (d t : Nat) {a b : Array TypeId} {c : Bool} (hu : P.underlying t = some (.func a b c)) : (Op.equalIn (d + 1) t .nilFunc .nilFunc).run P w = .ok true w := by simp [Op.equalIn, run_underlying hu]
theorem eqIn_fv (d t : Nat) {a b : Array TypeId} {c : Bool} (f : Fn) (x y : Array Value) (hu : P.underlying t = some (.func a b c)) : (Op.equalIn (d + 1) t .nilFunc (.func f x y)).run P w = .ok false w := by simp [Op.equalIn, run_underlying hu]
theorem eqIn_vf (d t : Nat) {a b : Array TypeId} {c : Bool} (f : Fn) (x y : Array Value) (hu : P.underlying t = some (.func a b c)) : (Op.equalIn (d + 1) t (.func f x y) .nilFunc).run P w = .ok false w := by simp [Op.equalIn, run_underlying hu]
theorem eqIn_mn (d t : Nat) {a b : TypeId} (r : Option Nat) (hu : P.underlying t = some (.map a b)) : (Op.equalIn (d + 1) t (.map none) (.map r)).run P w = .ok r.isNone w := by simp [Op.equalIn, run_underlying hu]
theorem eqIn_nm (d t : Nat) {a b : TypeId} (r : Nat) (hu : P.underlying t = some (.map a b)) : (Op.equalIn (d + 1) t (.map (some r)) (.map none)).run P w = .ok false w := by simp [Op.equalIn, run_underlying hu]

theorem aEq_sound {op : BinOp} {neg : Bool} {xt : Nat} {x y : Operand} {vx vy : AV} {cx cy : Value} {k : EqK} {b : Bool} (hop : (op = .eql ∧ neg = false) ∨ (op = .neq ∧ neg = true))
    (hk : eqKind P xt x y = some k) (hx : VRel m vx cx) (hy : VRel m vy cy) (he : aEq k vx vy = some b) :
    (do eqGuard op xt x y cx cy; binOp op xt cx cy : Sem Value).run P w = .ok (.bool (if neg then !b else b)) w := by
  have hk := eqKind_inv hk
  unfold aEq at he
  split at he <;> (try simp only [Option.some.injEq, reduceCtorEq] at he) <;> (try subst he) <;> (try dsimp only at hk)
  · obtain rfl := hx.bool_inv
    obtain rfl := hy.bool_inv
    exact eql_sound hop (eqGuard_none (.inl (by simp)) (by simp)) rfl rfl (run_equalIn_bool' w _ _ _ _ hk)
  · obtain ⟨e, hu⟩ := hk
    obtain rfl := hx.nilp_inv
    obtain rfl := hy.nilp_inv
    exact eql_sound hop (eqGuard_none (.inl (by simp)) (by simp)) rfl rfl (eqIn_pn _ _ e _ hu)
  · obtain ⟨e, hu⟩ := hk
    obtain rfl := hx.nilp_inv
    obtain ⟨a, rfl⟩ := hy.ptr_inv
    exact eql_sound hop (eqGuard_none (.inl (by simp)) (by simp)) rfl rfl (eqIn_pn _ _ e _ hu)
  · obtain ⟨e, hu⟩ := hk
    obtain rfl := hx.nilp_inv
    obtain ⟨a, rfl⟩ := hy.iptr_inv
    exact eql_sound hop (eqGuard_none (.inl (by simp)) (by simp)) rfl rfl (eqIn_pn _ _ e _ hu)
  · obtain ⟨e, hu⟩ := hk
    obtain rfl := hy.nilp_inv
    obtain ⟨a, rfl⟩ := hx.ptr_inv
    exact eql_sound hop (eqGuard_none (.inl (by simp)) (by simp)) rfl rfl (eqIn_np _ _ e _ hu)
  · obtain ⟨e, hu⟩ := hk
    obtain rfl := hy.nilp_inv
    obtain ⟨a, rfl⟩ := hx.iptr_inv
    exact eql_sound hop (eqGuard_none (.inl (by simp)) (by simp)) rfl rfl (eqIn_np _ _ e _ hu)
  · obtain ⟨⟨ms, hu⟩, hc⟩ := hk
    obtain rfl := hx.nili_inv
    obtain rfl := hy.nili_inv
    exact eql_sound hop (eqGuard_none (.inr (.inr hc.symm)) (by simp)) rfl rfl (eqIn_ii _ _ ms hu)
  · obtain ⟨⟨ms, hu⟩, hc⟩ := hk
    obtain rfl := hx.nili_inv
    obtain ⟨c, rfl, _⟩ := hy.iface_inv
    exact eql_sound hop (eqGuard_none (.inr (.inl (by simp))) (by simp)) rfl rfl (eqIn_iv _ _ _ _ ms hu)
  · obtain ⟨⟨ms, hu⟩, hc⟩ := hk
    obtain rfl := hy.nili_inv
    obtain ⟨c, rfl, _⟩ := hx.iface_inv
    exact eql_sound hop (eqGuard_none (.inl (by simp)) (by simp)) rfl rfl (eqIn_vi _ _ _ _ ms hu)
  · obtain ⟨_, _, _, hu⟩ := hk
    obtain rfl := hx.nilf_inv
    obtain rfl := hy.nilf_inv
    exact eql_sound hop (eqGuard_none (.inl (by simp)) (by simp)) rfl rfl (eqIn_ff _ _ hu)
  · obtain ⟨_, _, _, hu⟩ := hk
    obtain rfl := hx.nilf_inv
    obtain ⟨_, _, rfl, _⟩ := hy.fn_inv
    exact eql_sound hop (eqGuard_none (.inl (by simp)) (by simp)) rfl rfl (eqIn_fv _ _ _ _ _ hu)
  · obtain ⟨_, _, _, hu⟩ := hk
    obtain rfl := hy.nilf_inv
    obtain ⟨_, _, rfl, _⟩ := hx.fn_inv
    exact eql_sound hop (eqGuard_none (.inl (by simp)) (by simp)) rfl rfl (eqIn_vf _ _ _ _ _ hu)
  · obtain ⟨_, _, hu⟩ := hk
    obtain rfl := hx.nilm_inv
    obtain rfl := hy.nilm_inv
    exact eql_sound hop (eqGuard_none (.inl (by simp)) (by simp)) rfl rfl (eqIn_mn _ _ _ hu)
  · obtain ⟨_, _, hu⟩ := hk
    obtain rfl := hx.nilm_inv
    obtain ⟨_, rfl, _⟩ := hy.map_inv
    exact eql_sound hop (eqGuard_none (.inl (by simp)) (by simp)) rfl rfl (eqIn_mn _ _ _ hu)
  · obtain ⟨_, _, hu⟩ := hk
    obtain rfl := hx.nilm_inv
    obtain ⟨_, _, _, rfl, _⟩ := hy.imap_inv
    exact eql_sound hop (eqGuard_none (.inl (by simp)) (by simp)) rfl rfl (eqIn_mn _ _ _ hu)
  · obtain ⟨_, _, hu⟩ := hk
    obtain rfl := hy.nilm_inv
    obtain ⟨_, rfl, _⟩ := hx.map_inv
    exact eql_sound hop (eqGuard_none (.inl (by simp)) (by simp)) rfl rfl (eqIn_nm _ _ _ hu)
  · obtain ⟨_, _, hu⟩ := hk
    obtain rfl := hy.nilm_inv
    obtain ⟨_, _, _, rfl, _⟩ := hx.imap_inv
    exact eql_sound hop (eqGuard_none (.inl (by simp)) (by simp)) rfl rfl (eqIn_nm _ _ _ hu)
  · obtain ⟨fs, hu, h1, h2, h3⟩ := hk
    obtain ⟨a, rfl, _⟩ := hx.agg_inv
    obtain ⟨a', rfl, _⟩ := hy.agg_inv
    refine eql_sound hop (run_eqGuard_agg w op xt x y _ _ h2) rfl rfl ?_
    have hf : P.underlying xt = some (.struct (P.fieldsOf xt)) := by simp [Program.fieldsOf, hu]
    rw [Op.equal, Op.maxDepth, run_equalIn_agg w _ _ _ _ hf h1]
    exact eqCells_sound hx hy _ _ _ _ (by simpa [Program.fieldsOf, hu] using h3) he

end Gls
