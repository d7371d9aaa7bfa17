/-
  The instructions that leave the heap as it is.
-/
import Derived.Test.YtpbcecibooaebaaGreatDoorAbEq
import Derived.WalkSpells
namespace Go.Ab
open Go

section
variable {E : Cx} {m : Mp} {P : Program}

theorem valOf_true (vs : List Value) : valOf true vs = .agg vs.toArray := rfl

theorem equal_def (t : TypeId) (x y : Value) : Op.equal t x y = Op.equalIn (9999 + 1) t x y := rfl

section
variable {t : TypeId} (d : Nat) (w : World)

theorem eqIn_ptr_none {e : TypeId} (hu : P.underlying t = some (.pointer e)) (b : Option Addr) : (Op.equalIn (d + 1) t (.pointer none) (.pointer b)).run P w = .ok b.isNone w := by
  simp only [Op.equalIn]; rw [bind_ok (run_underlying hu w)]; rfl
theorem eqIn_ptr_some {e : TypeId} (hu : P.underlying t = some (.pointer e)) (a : Addr) : (Op.equalIn (d + 1) t (.pointer (some a)) (.pointer none)).run P w = .ok false w := by
  simp only [Op.equalIn]; rw [bind_ok (run_underlying hu w)]; rfl
theorem eqIn_ptr {e n : Nat} (hu : P.underlying t = some (.pointer e)) (hn : sizeT P e = some (n + 1)) (b o o' : Nat) :
    (Op.equalIn (d + 1) t (.pointer (some ⟨b, o, none⟩)) (.pointer (some ⟨b, o', none⟩))).run P w = .ok (decide (o = o')) w := by
  simp only [Op.equalIn]
  rw [bind_ok (run_underlying hu w)]
  simp only
  rw [bind_ok (run_sizeOf hn w)]
  simp only [ne_eq, Nat.add_eq_zero_iff, Nat.one_ne_zero, and_false, not_false_eq_true, if_true, sameAddr, BEq.rfl]
  have : ((⟨b, o, none⟩ : Addr) == ⟨b, o', none⟩) = decide (o = o') := by rw [Bool.eq_iff_iff]; simp
  rw [← this]; rfl
theorem eqIn_slice_none {e : TypeId} (hu : P.underlying t = some (.slice e)) (l c : Nat) (b : Option Addr) (l' c' : Nat) : (Op.equalIn (d + 1) t (.slice none l c) (.slice b l' c')).run P w = .ok b.isNone w := by
  simp only [Op.equalIn]; rw [bind_ok (run_underlying hu w)]; rfl
theorem eqIn_slice_some {e : TypeId} (hu : P.underlying t = some (.slice e)) (a : Addr) (l c l' c' : Nat) : (Op.equalIn (d + 1) t (.slice (some a) l c) (.slice none l' c')).run P w = .ok false w := by
  simp only [Op.equalIn]; rw [bind_ok (run_underlying hu w)]; rfl
theorem eqIn_func_nn {ps rs : Array TypeId} {vd : Bool} (hu : P.underlying t = some (.func ps rs vd)) : (Op.equalIn (d + 1) t .nilFunc .nilFunc).run P w = .ok true w := by
  simp only [Op.equalIn]; rw [bind_ok (run_underlying hu w)]; rfl
theorem eqIn_func_nf {ps rs : Array TypeId} {vd : Bool} (hu : P.underlying t = some (.func ps rs vd)) (f : Fn) (a b : Array Value) : (Op.equalIn (d + 1) t .nilFunc (.func f a b)).run P w = .ok false w := by
  simp only [Op.equalIn]; rw [bind_ok (run_underlying hu w)]; rfl
theorem eqIn_func_fn {ps rs : Array TypeId} {vd : Bool} (hu : P.underlying t = some (.func ps rs vd)) (f : Fn) (a b : Array Value) : (Op.equalIn (d + 1) t (.func f a b) .nilFunc).run P w = .ok false w := by
  simp only [Op.equalIn]; rw [bind_ok (run_underlying hu w)]; rfl
end

theorem aeq_sound {t : TypeId} {k : EqK} (hk : eqK P t = some k) {a b : AV} {r : Bool} (h : aeq k a b = some r) {x y : Value} (hx : VR E m a x) (hy : VR E m b y)
    (op : BinOp) (u v : Operand) (w : World) :
    (eqGuard op t u v x y).run P w = .ok () w ∧ (Op.equal t x y).run P w = .ok r w ∧
      (∀ k n, x ≠ .int k n) ∧ (∀ s, x ≠ .string s) ∧ (∀ k n, x ≠ .float k n) ∧ (∀ k a b, x ≠ .complex k a b) := by
  unfold eqK at hk
  split at hk <;> first | (simp at hk; done) | skip
  · -- bool
    rename_i hu
    cases hk
    simp only [aeq, leafEq] at h
    split at h
    · rename_i a b
      cases hx; cases hy
      refine ⟨eqGuard_other w (by simp) (by simp), ?_, by simp, by simp, by simp, by simp⟩
      rw [equal_def, run_equalIn_bool' w _ t a b hu]
      cases h
      cases a <;> cases b <;> rfl
    · simp at h
  · -- pointers
    rename_i e hu
    split at hk <;> first | (simp at hk; done) | skip
    rename_i n hn
    cases hk
    simp only [aeq] at h
    split at h
    · cases hx
      split at h
      · cases hy; cases h
        exact ⟨eqGuard_other w (by simp) (by simp), eqIn_ptr_none _ w hu _, by simp, by simp, by simp, by simp⟩
      · cases hy; cases h
        exact ⟨eqGuard_other w (by simp) (by simp), eqIn_ptr_none _ w hu _, by simp, by simp, by simp, by simp⟩
      · simp at h
    · rename_i b o
      split at h
      · cases hx; cases hy; cases h
        exact ⟨eqGuard_other w (by simp) (by simp), eqIn_ptr_some _ w hu _, by simp, by simp, by simp, by simp⟩
      · rename_i b' o'
        split at h
        · rename_i hb
          have hb : b = b' := by simpa using hb
          subst hb
          cases h
          cases hx with
          | ptr h1 =>
            cases hy with
            | ptr h2 =>
              rw [h1] at h2; cases h2
              have q := eqIn_ptr (P := P) 9999 w hu hn
              refine ⟨eqGuard_other w (by simp) (by simp), ?_, by simp, by simp, by simp, by simp⟩
              rw [equal_def, q, eqN_eq]
        · simp at h
      · simp at h
    · simp at h
  · -- slices
    rename_i e hu
    cases hk
    simp only [aeq] at h
    split at h <;> first | (simp at h; done) | skip
    all_goals
      cases hx; cases hy; cases h
      exact ⟨eqGuard_other w (by simp) (by simp), by first | exact eqIn_slice_none _ w hu _ _ _ _ _ | exact eqIn_slice_some _ w hu _ _ _ _ _, by simp, by simp, by simp, by simp⟩
  · -- functions
    rename_i hu
    cases hk
    simp only [aeq] at h
    split at h <;> first | (simp at h; done) | skip
    all_goals
      cases hx; cases hy; cases h
      exact ⟨eqGuard_other w (by simp) (by simp), by first | exact eqIn_func_nn _ w hu | exact eqIn_func_nf _ w hu _ _ _ | exact eqIn_func_fn _ w hu _ _ _, by simp, by simp, by simp, by simp⟩
  all_goals
    rename_i hu
    split at hk <;> first | (simp at hk; done) | skip
    rename_i hg
    split at hk <;> first | (simp at hk; done) | skip
    rename_i ts hts
    cases hk
    simp only [aeq] at h
    split at h <;> first | (simp at h; done) | skip
    rename_i as bs
    split at h <;> first | (simp at h; done) | skip
    rename_i h1 h2
    have h1 : ts.length = as.length := by simpa using h1
    have h2 : ts.length = bs.length := by simpa using h2
    cases hx with
    | agg ha hla hra =>
      cases hy with
      | agg hb hlb hrb =>
        rename_i xs ys
        obtain ⟨agg, k1, k2, k3⟩ := flatT_sound (E := E) (m := m) 20 t ts hts 10000 (by omega) as bs xs.toList ys.toList r w h1.symm h2.symm
          ⟨by simpa using ha, fun i a v h1 h2 => hra i a v h1 (by simpa using h2)⟩ ⟨by simpa using hb, fun i a v h1 h2 => hrb i a v h1 (by simpa using h2)⟩ h
        have : agg = true := by
          simp [aggT, hu] at k1; exact k1
        subst this
        simp only [valOf_true, Array.toArray_toList] at k3
        exact ⟨run_eqGuard_agg w op t u v xs ys (by simpa using hg), k3, by simp, by simp, by simp, by simp⟩

/-! bounds -/

theorem bound_sound {x : AV} {y cp n : Nat} (h : bound x y = some n) {v : Value} (hv : VR E m x v) (hy : y ≤ cp) (code : Go.BoundsCode) (w : World) :
    (Instr.sliceBound v cp code).run P w = .ok n w ∧ n ≤ y := by
  unfold bound at h
  split at h
  · split at h
    · rename_i hl
      cases h
      have hl : n ≤ y := by simpa using hl
      cases hv
      refine ⟨?_, hl⟩
      unfold Instr.sliceBound asIntOf
      rw [bind_ok (run_pure _ w)]
      have : (0 : Int) ≤ Int.ofNat n ∧ Int.ofNat n ≤ (cp : Int) := ⟨Int.natCast_nonneg n, Int.ofNat_le.2 (by omega)⟩
      simp only
      rw [if_pos this]; rfl
    · simp at h
  · simp at h

/-- an operand that need not be there -/
theorem cOpt_none {x : Option Operand} (h : cOpt P x = some none) : x = none := by
  unfold cOpt at h
  split at h
  · rfl
  · split at h <;> simp at h

theorem cOpt_some {x : Option Operand} {y : Opd} (h : cOpt P x = some (some y)) : ∃ z, x = some z ∧ cOpd P z = some y := by
  unfold cOpt at h
  split at h
  · simp at h
  · rename_i z
    split at h
    · rename_i q hq; cases h; exact ⟨z, rfl, hq⟩
    · simp at h

/-- the three bounds of a slice expression; cp: what the capacity is; q: at most that -/
theorem bounds_sound (hg : Globs P m) {lo hi mx : Option Operand} {clo chi cmx : Option Opd} (h1 : cOpt P lo = some clo) (h2 : cOpt P hi = some chi) (h3 : cOpt P mx = some cmx)
    (h4 : (cmx.isSome && chi.isNone) = false) {tm : FT} {a : Act} (hf : FR E m tm a.tmps) {len q cp mm hh ll : Nat} (hq : q ≤ cp)
    (e1 : boundOr cmx tm q q = some mm) (e2 : boundOr chi tm mm len = some hh) (e3 : boundOr clo tm hh 0 = some ll) (isS : Bool) (w : World) :
    (Instr.sliceBounds isS len cp (lo.map a.eval) (hi.map a.eval) (mx.map a.eval)).run P w = .ok (ll, hh, if cmx.isSome then mm else cp) w ∧
      ll ≤ hh ∧ (chi.isSome = true → hh ≤ mm) ∧ (chi = none → hh = len) ∧ (cmx = none → mm = q) ∧ mm ≤ q := by
  have opt : ∀ {x : Option Operand} {c : Option Opd}, cOpt P x = some c → (x = none ∧ c = none) ∨ ∃ z y, x = some z ∧ c = some y ∧ VR E m (opd y tm) (a.eval z) := by
    intro x c hx
    cases c with
    | none => exact .inl ⟨cOpt_none hx, rfl⟩
    | some y => obtain ⟨z, rfl, hz⟩ := cOpt_some hx; exact .inr ⟨z, y, rfl, rfl, cOpd_sound hg hz hf⟩
  unfold Instr.sliceBounds
  rcases opt h3 with ⟨rfl, rfl⟩ | ⟨zm, ym, rfl, rfl, vm⟩ <;> rcases opt h2 with ⟨rfl, rfl⟩ | ⟨zh, yh, rfl, rfl, vh⟩ <;> rcases opt h1 with ⟨rfl, rfl⟩ | ⟨zl, yl, rfl, rfl, vl⟩ <;>
    simp only [boundOr, Option.some.injEq, Option.map_none, Option.map_some, Option.isSome_some, Option.isNone_none, Bool.and_self, Bool.true_eq_false] at e1 e2 e3 h4 ⊢
  · subst e1; subst e2; subst e3
    rw [bind_ok (run_pure _ w), bind_ok (run_pure _ w), bind_ok (run_pure _ w)]
    exact ⟨rfl, Nat.zero_le _, by simp, fun _ => rfl, fun _ => rfl, Nat.le_refl _⟩
  · subst e1; subst e2
    rw [bind_ok (run_pure _ w), bind_ok (run_pure _ w), bind_ok (bound_sound e3 vl (Nat.le_refl _) _ w).1]
    exact ⟨rfl, (bound_sound (P := P) e3 vl (Nat.le_refl _) .index w).2, by simp, fun _ => rfl, fun _ => rfl, Nat.le_refl _⟩
  · subst e1; subst e3
    rw [bind_ok (run_pure _ w), bind_ok (bound_sound e2 vh hq _ w).1, bind_ok (run_pure _ w)]
    exact ⟨rfl, Nat.zero_le _, fun _ => (bound_sound (P := P) e2 vh hq .index w).2, by simp, fun _ => rfl, Nat.le_refl _⟩
  · subst e1
    rw [bind_ok (run_pure _ w), bind_ok (bound_sound e2 vh hq _ w).1, bind_ok (bound_sound e3 vl (Nat.le_refl _) _ w).1]
    exact ⟨rfl, (bound_sound (P := P) e3 vl (Nat.le_refl _) .index w).2, fun _ => (bound_sound (P := P) e2 vh hq .index w).2, by simp, fun _ => rfl, Nat.le_refl _⟩
  · subst e3
    rw [bind_ok (bound_sound e1 vm hq _ w).1, bind_ok (bound_sound e2 vh (Nat.le_refl _) _ w).1, bind_ok (run_pure _ w)]
    exact ⟨rfl, Nat.zero_le _, fun _ => (bound_sound (P := P) e2 vh (Nat.le_refl _) .index w).2, by simp, by simp, (bound_sound (P := P) e1 vm hq .index w).2⟩
  · rw [bind_ok (bound_sound e1 vm hq _ w).1, bind_ok (bound_sound e2 vh (Nat.le_refl _) _ w).1, bind_ok (bound_sound e3 vl (Nat.le_refl _) _ w).1]
    exact ⟨rfl, (bound_sound (P := P) e3 vl (Nat.le_refl _) .index w).2, fun _ => (bound_sound (P := P) e2 vh (Nat.le_refl _) .index w).2, by simp, by simp, (bound_sound (P := P) e1 vm hq .index w).2⟩
end
end Go.Ab
