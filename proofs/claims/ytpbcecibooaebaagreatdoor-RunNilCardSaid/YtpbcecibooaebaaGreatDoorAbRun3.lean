/-
  The abstract machine's code and calls are the model's.
-/
import Derived.Test.YtpbcecibooaebaaGreatDoorAbRun2
namespace Go.Ab
open Go

section
variable {E : Cx} {m m' m'' : Mp} {P : Program}

def exOf : AExit → Exit
  | .normal => .normal
  | .exit id => .exit id
  | .ret => .ret

theorem wpIn_loop_rel {F : Fence} {n : Nat} {c : Code} {Q : Exit → Act → World → Prop} (J : Nat → Act → World → Prop)
    (round : ∀ k a w, J k a w → c.wpIn F n P (Exit.then (fun a' w' => ∃ k', k' < k ∧ J k' a' w') Q) a w) {k0 : Nat} {a : Act} {w : World} (h₀ : J k0 a w) : (Code.loop c).wpIn F n P Q a w := by
  intro b k cs hro hb hr
  have key : ∀ j a w, J j a w → ∃ e a' w', Q e a' w' ∧ ArrivesIn (Machine.fenced P F) P (lone (b.atR a (.code c :: .inLoop c :: k)) cs w) b k cs e a' w' := by
    intro j
    induction j using Nat.strongRecOn with
    | _ j ih =>
      intro a w hJ
      obtain ⟨e, a₁, w₁, hq, harr⟩ := round j a w hJ b (.inLoop c :: k) cs hro hb hr
      cases e with
      | normal =>
        obtain ⟨k', hlt, hJ'⟩ := hq
        obtain ⟨e₂, a₂, w₂, hq₂, harr₂⟩ := ih k' hlt a₁ w₁ hJ'
        exact ⟨e₂, a₂, w₂, hq₂, .of_steps (StepsIn.trans harr (.one (fenced_calm hb hr rfl) stepR_inLoop)) harr₂⟩
      | exit id => exact ⟨_, a₁, w₁, hq, .pass (x := .inLoop c) rfl (fun _ _ => .inl (by simp)) harr⟩
      | goto l => exact ⟨_, a₁, w₁, hq, .pass (x := .inLoop c) rfl (fun _ _ => .inl (by simp)) harr⟩
      | ret => exact ⟨_, a₁, w₁, hq, .pass (x := .inLoop c) rfl (fun _ _ => .inl (by simp)) harr⟩
      | panic ch => exact ⟨_, a₁, w₁, hq, .pass (x := .inLoop c) rfl (fun _ _ => .inl (by simp)) harr⟩
      | outgrown => exact ⟨_, a₁, w₁, hq, .pass (x := .inLoop c) rfl (fun _ _ => .inl (by simp)) harr⟩
  obtain ⟨e, a', w', hq, harr⟩ := key k0 a w h₀
  exact ⟨e, a', w', hq, .of_steps (.one (fenced_calm hb hr rfl) stepR_loop) harr⟩

/-- what a function tells, the heap left as it is -/
def PrOk (E : Cx) (P : Program) (f : Nat) (p : List AV → AH → Option AV) : Prop :=
  (∃ fn c, P.funcs[f]? = some fn ∧ fn.body = some c ∧ fn.name ≠ "runtime.NumGoroutine") ∧
    ∀ {as : List AV} {v : AV} {h : AH}, p as h = some v → ∀ {m : Mp} {w : World} {args : Array Value}, Globs P m → Rel E m h w.heap → LR E m as args.toList →
      CallsIn Fence.wide 0 P f args w (CallPost E m h w v h)

structure EnvOk (E : Cx) (P : Program) (F : Env) : Prop where
  prog : E.prog = P
  fn : ∀ f fn, F.fn f = some fn → cFn P f = some fn
  pr : ∀ f p, F.pr f = some p → PrOk E P f p

def CodePost (E : Cx) (P : Program) (nt : Nat) (m : Mp) (s : St) (a : Act) (w : World) (e : AExit) (s' : St) : Exit → Act → World → Prop :=
  fun ex a' w' => ex = exOf e ∧ ∃ m', Stp E P nt m m' s s' a a' w w'

/-- the code at so many steps -/
def CodeOk (E : Cx) (P : Program) (F : Env) (n : Nat) : Prop := ∀ (nt : Nat) (inr : Bool) (code : Code) {m : Mp} {s s' : St} {e : AExit} {a : Act} {w : World} (ro : Option Nat), (inr = false → ro = none) → AR E m P nt s a w →
  aexec F n (cCode P nt inr code) s = some (e, s') → code.wpIn (fen ro) 0 P (CodePost E P nt m s a w e s') a w

/-- drawn regions -/
def DrawOk (E : Cx) (P : Program) : Prop := ∀ {call : Call}, CallOk E P call → ∀ (nt id : Nat) (ops : Array Oper) {nf : Nat} {l : List DI} {last : List Nat} {m : Mp} {s s' : St} {a : Act} {w : World}
  (ro : Option Nat), cDraw P nt ops = some (.dreg nf l last) → AR E m P nt s a w → (adreg nf l last).f call s = some s' →
    (Code.region id ops true).wpIn (fen ro) 0 P (CodePost E P nt m s a w .normal s') a w

/-- ranges over functions -/
def RangeOk (E : Cx) (P : Program) (F : Env) (n : Nat) : Prop := CallOk E P (acall F (aexec F n)) → ∀ (nt : Nat) (g : Operand) (ps : Array Nat) (asg body : Code) {f : Opd} {m : Mp} {s s' : St} {e : AExit} {a : Act} {w : World},
  cOpd P g = some f → (∀ p ∈ ps.toList, p < nt) → AR E m P nt s a w → arfunc F (aexec F n) (opd f s.tm) ps.toList (cCode P nt true asg) (cCode P nt true body) s = some (e, s') →
    (Code.rangeFunc g ps asg body).wpIn (fen none) 0 P (CodePost E P nt m s a w e s') a w

theorem exit_then {nt : Nat} {s s1 s' : St} {a a1 : Act} {w w1 : World} {e : AExit} {ro : Option Nat} {y : Code} (h1 : Stp E P nt m m' s s1 a a1 w w1)
    (h2 : y.wpIn (fen ro) 0 P (CodePost E P nt m' s1 a1 w1 e s') a1 w1) : y.wpIn (fen ro) 0 P (CodePost E P nt m s a w e s') a1 w1 :=
  wpIn_mono h2 (fun _ _ _ ⟨q1, m2, q2⟩ => ⟨q1, m2, h1.trans q2⟩)

theorem code_step {F : Env} (hd : DrawOk E P) {n : Nat} (hk : CallOk E P (acall F (aexec F n))) (hr : RangeOk E P F n) (ih : ∀ k, k ≤ n → CodeOk E P F k) : CodeOk E P F (n + 1) := by
  intro nt inr code m s s' e a w ro hin har hx
  have hx : ((cCode P nt inr code).run F).f (aexec F n) s = some (e, s') := hx
  cases code with
  | skip =>
    simp only [cCode, AC.run, Option.some.injEq, Prod.mk.injEq] at hx
    obtain ⟨rfl, rfl⟩ := hx
    exact wpIn_skip ⟨rfl, m, Stp.refl har⟩
  | label l =>
    simp only [cCode, AC.run, Option.some.injEq, Prod.mk.injEq] at hx
    obtain ⟨rfl, rfl⟩ := hx
    exact wpIn_label ⟨rfl, m, Stp.refl har⟩
  | region id ops draw =>
    cases draw with
    | false =>
      simp only [cCode] at hx
      split at hx
      · rename_i l hl
        simp only [AC.run, aend] at hx
        split at hx <;> first | (simp at hx; done) | skip
        rename_i s1 hs1
        simp only [Option.some.injEq, Prod.mk.injEq] at hx
        obtain ⟨rfl, rfl⟩ := hx
        refine wpIn_region ?_
        have := ops_sound hk (ro := ro) (Q := CodePost E P nt m s a w .normal s1) ops.toList l 0 (fun i => by simp) hl har hs1 (fun m' a' w' h => ⟨rfl, m', h⟩)
        rw [Array.length_toList, ← List.range_eq_range'] at this
        exact this
      · simp [AC.run] at hx
    | true =>
      simp only [cCode] at hx
      split at hx
      · rename_i c hc
        have hc' := hc
        unfold cDraw at hc'
        split at hc' <;> first | (simp at hc'; done) | skip
        simp only at hc'
        split at hc' <;> first | (simp at hc'; done) | skip
        simp only [Option.some.injEq] at hc'
        subst hc'
        simp only [AC.run, aend] at hx
        split at hx <;> first | (simp at hx; done) | skip
        rename_i s1 hs1
        simp only [Option.some.injEq, Prod.mk.injEq] at hx
        obtain ⟨rfl, rfl⟩ := hx
        exact hd hk nt id ops ro hc har hs1
      · simp [AC.run] at hx
  | seq x y =>
    simp only [cCode, AC.run, aseq] at hx
    split at hx <;> first | (simp at hx; done) | skip
    rename_i e1 s1 h1
    refine wpIn_seq (wpIn_mono (ih n (Nat.le_refl _) nt inr x ro hin har h1) ?_)
    rintro ex a1 w1 ⟨rfl, m1, st⟩
    cases e1 with
    | normal => exact exit_then st (ih n (Nat.le_refl _) nt inr y ro hin st.ar hx)
    | exit i =>
      simp only [Option.some.injEq, Prod.mk.injEq] at hx
      obtain ⟨rfl, rfl⟩ := hx
      exact ⟨rfl, m1, st⟩
    | ret =>
      simp only [Option.some.injEq, Prod.mk.injEq] at hx
      obtain ⟨rfl, rfl⟩ := hx
      exact ⟨rfl, m1, st⟩
  | cond c x y =>
    simp only [cCode] at hx
    split at hx
    · rename_i co hco
      simp only [AC.run] at hx
      have hv := cOpd_sound (E := E) har.glob hco har.fr
      split at hx <;> first | (simp at hx; done) | skip
      · rename_i hb
        rw [hb] at hv
        generalize hz : a.eval c = z at hv
        cases hv
        exact wpIn_cond_true hz (ih n (Nat.le_refl _) nt inr x ro hin har hx)
      · rename_i hb
        rw [hb] at hv
        generalize hz : a.eval c = z at hv
        cases hv
        exact wpIn_cond_false hz (ih n (Nat.le_refl _) nt inr y ro hin har hx)
    · simp [AC.run] at hx
  | block id x =>
    simp only [cCode, AC.run, ablock] at hx
    split at hx <;> first | (simp at hx; done) | skip
    rename_i e1 s1 h1
    refine wpIn_block (wpIn_mono (ih n (Nat.le_refl _) nt inr x ro hin har h1) ?_)
    rintro ex a1 w1 ⟨rfl, m1, st⟩
    cases e1 with
    | normal =>
      simp only [Option.some.injEq, Prod.mk.injEq] at hx
      obtain ⟨rfl, rfl⟩ := hx
      exact ⟨rfl, m1, st⟩
    | exit j =>
      simp only [eqN_eq] at hx
      simp only [exOf, Exit.inBlock]
      split at hx
      · rename_i hj
        simp only [Option.some.injEq, Prod.mk.injEq] at hx
        obtain ⟨rfl, rfl⟩ := hx
        rw [if_pos (by simpa using hj)]
        exact ⟨rfl, m1, st⟩
      · rename_i hj
        simp only [Option.some.injEq, Prod.mk.injEq] at hx
        obtain ⟨rfl, rfl⟩ := hx
        rw [if_neg (by simpa using hj)]
        exact ⟨rfl, m1, st⟩
    | ret =>
      simp only [Option.some.injEq, Prod.mk.injEq] at hx
      obtain ⟨rfl, rfl⟩ := hx
      exact ⟨rfl, m1, st⟩
  | loop x =>
    simp only [cCode] at hx
    let J : Nat → Act → World → Prop := fun k a1 w1 => k ≤ n + 1 ∧ ∃ m1 s1, Stp E P nt m m1 s s1 a a1 w w1 ∧ aexec F k (.loop (cCode P nt inr x)) s1 = some (e, s')
    refine wpIn_loop_rel J ?_ (k0 := n + 1) ⟨Nat.le_refl _, m, s, Stp.refl har, hx⟩
    rintro k a1 w1 ⟨hk1, m1, s1, st, hs1⟩
    cases k with
    | zero => exact absurd (show none = some (e, s') from hs1) (by simp)
    | succ k =>
      have hs1 : aseq (aexec F k (cCode P nt inr x) s1) (aexec F k (.loop (cCode P nt inr x))) = some (e, s') := hs1
      unfold aseq at hs1
      split at hs1 <;> first | (simp at hs1; done) | skip
      rename_i e2 s2 h2
      refine wpIn_mono (ih k (by omega) nt inr x ro hin st.ar h2) ?_
      rintro ex a2 w2 ⟨rfl, m2, st2⟩
      cases e2 with
      | normal => exact ⟨k, by omega, by omega, m2, s2, st.trans st2, hs1⟩
      | exit i =>
        simp only [Option.some.injEq, Prod.mk.injEq] at hs1
        obtain ⟨rfl, rfl⟩ := hs1
        exact ⟨rfl, m2, st.trans st2⟩
      | ret =>
        simp only [Option.some.injEq, Prod.mk.injEq] at hs1
        obtain ⟨rfl, rfl⟩ := hs1
        exact ⟨rfl, m2, st.trans st2⟩
  | rangeFunc g ps asg body =>
    simp only [cCode] at hx
    split at hx
    · rename_i f hf hps hx0
      simp only [AC.run] at hx
      obtain rfl := hin rfl
      refine hr hk nt g ps asg body hf ?_ har hx
      intro p hp
      have := List.all_eq_true.1 hps p hp
      simpa [Nat.blt_eq] using this
    · simp [AC.run] at hx
  | exit id =>
    simp only [cCode, AC.run, Option.some.injEq, Prod.mk.injEq] at hx
    obtain ⟨rfl, rfl⟩ := hx
    exact wpIn_exit ⟨rfl, m, Stp.refl har⟩
  | ret =>
    simp only [cCode, AC.run, Option.some.injEq, Prod.mk.injEq] at hx
    obtain ⟨rfl, rfl⟩ := hx
    exact wpIn_ret ⟨rfl, m, Stp.refl har⟩
  | _ => simp [cCode, AC.run] at hx
end
end Go.Ab
