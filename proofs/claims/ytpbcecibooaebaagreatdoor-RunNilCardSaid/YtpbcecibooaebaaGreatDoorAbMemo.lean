/-
  What a function is known to tell at plain arguments: a run from the package-level variables alone serves at every heap that holds them.
-/
import Derived.Test.YtpbcecibooaebaaGreatDoorAbIndex
namespace Go.Ab
open Go Go.RowKit

/-- values that no heap bears on -/
def AV.plain : AV → Bool
  | .bool _ | .int _ _ | .str _ | .nilp | .nils | .nilf | .nili | .ext _ => true
  | .agg cs => plains cs
  | .tup cs => plains cs
  | _ => false
where
  plains : List AV → Bool
  | [] => true
  | x :: xs => x.plain && plains xs

section
variable {E : Cx} {m m' : Mp}

mutual
theorem VR.plain : ∀ (a : AV) (v : Value), a.plain = true → VR E m a v → VR E m' a v
  | .bool _, _, _, h => by cases h; exact .bool _
  | .int _ _, _, _, h => by cases h; exact .int _ _
  | .str _, _, _, h => by cases h; exact .str _
  | .nilp, _, _, h => by cases h; exact .nilp
  | .nils, _, _, h => by cases h; exact .nils
  | .nilf, _, _, h => by cases h; exact .nilf
  | .nili, _, _, h => by cases h; exact .nili
  | .ext i, _, _, h => by
    generalize hy : AV.ext i = y at h
    cases h <;> first | (cases hy; done) | (cases hy; exact .ext (by assumption))
  | .agg cs, _, hp, h => by
    cases h with
    | agg ha hl h => exact .agg ha hl (LR.plains cs _ hp ⟨ha.trans Array.length_toList.symm, fun i a v h1 h2 => h i a v h1 (by simpa using h2)⟩ |> fun q i a v h1 h2 => q.2 i a v h1 (by simpa using h2))
  | .tup cs, _, hp, h => by
    cases h with
    | tup ha h => exact .tup ha (LR.plains cs _ hp ⟨ha.trans Array.length_toList.symm, fun i a v h1 h2 => h i a v h1 (by simpa using h2)⟩ |> fun q i a v h1 h2 => q.2 i a v h1 (by simpa using h2))
  | .ptr _ _, _, hp, _ => by simp [AV.plain] at hp
  | .emp, _, hp, _ => by simp [AV.plain] at hp
  | .slice .., _, hp, _ => by simp [AV.plain] at hp
  | .fn .., _, hp, _ => by simp [AV.plain] at hp
  | .yield _, _, hp, _ => by simp [AV.plain] at hp
  | .iface _ _, _, hp, _ => by simp [AV.plain] at hp
  | .any, _, hp, _ => by simp [AV.plain] at hp
  | .res _ _ _, _, hp, _ => by simp [AV.plain] at hp
  | .mapv _, _, hp, _ => by simp [AV.plain] at hp
  | .nilm, _, hp, _ => by simp [AV.plain] at hp
theorem LR.plains : ∀ (as : List AV) (vs : List Value), AV.plain.plains as = true → LR E m as vs → LR E m' as vs
  | [], vs, _, h => by
    have := h.nil_inv
    subst this; exact LR.nil
  | a :: as, vs, hp, h => by
    simp only [AV.plain.plains, Bool.and_eq_true] at hp
    obtain ⟨v, ws, rfl, h1, h2⟩ := h.cons_inv
    exact LR.cons (VR.plain a v hp.1 h1) (LR.plains as ws hp.2 h2)
end
end

/-- does the heap hold the package-level variables as they are known? -/
noncomputable def sameGs (h : AH) (gs : List (List AV × Nat)) : Nat → Bool :=
  List.rec (motive := fun _ => Nat → Bool) (fun _ => true) (fun g _ ih b => match h.get b with
    | some (.cells cs e _) => match AV.same.sames cs g.1, eqN e g.2 with
      | true, true => withN (b + 1) ih
      | _, _ => false
    | _ => false) gs

theorem sameGs_spec {h : AH} : ∀ {gs : List (List AV × Nat)} {k : Nat}, sameGs h gs k = true → ∀ (b : Nat) g, gs[b]? = some g → ∃ ro, h.get (k + b) = some (.cells g.1 g.2 ro) := by
  intro gs
  induction gs with
  | nil => intro k _ b g hb; simp at hb
  | cons g0 gs ih =>
    intro k hk b g hb
    have e : sameGs h (g0 :: gs) k = match h.get k with
      | some (.cells cs e _) => match AV.same.sames cs g0.1, eqN e g0.2 with
        | true, true => withN (k + 1) (sameGs h gs)
        | _, _ => false
      | _ => false := rfl
    rw [e] at hk
    split at hk <;> first | (simp at hk; done) | skip
    rename_i cs t ro hget
    split at hk <;> first | (simp at hk; done) | skip
    rename_i h1 h2
    rw [withN_eq] at hk
    have h2 : t = g0.2 := by simpa using h2
    cases b with
    | zero =>
      simp at hb; subst hb
      refine ⟨ro, ?_⟩
      rw [Nat.add_zero, hget, sames_eq _ _ h1, h2]
    | succ b =>
      obtain ⟨ro, hr⟩ := ih hk b g (by simpa using hb)
      exact ⟨ro, by rw [show k + (b + 1) = k + 1 + b by omega]; exact hr⟩

noncomputable def look (tab : List (List AV × AV)) (as : List AV) : Option AV := List.rec (motive := fun _ => Option AV) none (fun r _ ih => match AV.same.sames as r.1 with
  | true => some r.2
  | false => ih) tab

theorem look_spec {tab : List (List AV × AV)} {as : List AV} {v : AV} (h : look tab as = some v) : (as, v) ∈ tab := by
  induction tab with
  | nil => cases h
  | cons r tab ih =>
    have e : look (r :: tab) as = match AV.same.sames as r.1 with
      | true => some r.2
      | false => look tab as := rfl
    rw [e] at h
    split at h
    · rename_i hs
      cases h
      rw [sames_eq _ _ hs]
      exact List.mem_cons_self ..
    · exact List.mem_cons_of_mem _ (ih h)

/-- what is known, wherever the package-level variables are as they are known -/
noncomputable def memo (gs : List (List AV × Nat)) (tab : List (List AV × AV)) (as : List AV) (h : AH) : Option AV :=
  match sameGs h gs 0 with
  | true => look tab as
  | false => none

noncomputable def memoF (gs : List (List AV × Nat)) (p : List AV → Option AV) (as : List AV) (h : AH) : Option AV :=
  match sameGs h gs 0 with
  | true => p as
  | false => none

/-- does a run tell that value? -/
noncomputable def tells (r : Res) (v : AV) : Bool := match r with
  | some (x, _) => x.same v
  | none => false

section
variable {E : Cx} {P : Program}

theorem memoF_ok {F : Env} (hE : EnvOk E P F) (hP : P.follows .mixedOrders = true) {gs : List (List AV × Nat)} (hg : P.globals.size = gs.length) (hgp : ∀ g ∈ gs, AV.plain.plains g.1 = true) {f : Nat}
    (hf : ∃ fn c, P.funcs[f]? = some fn ∧ fn.body = some c ∧ fn.name ≠ "runtime.NumGoroutine") {p : List AV → Option AV}
    (hp : ∀ as v, p as = some v → AV.plain.plains as = true ∧ v.plain = true ∧ ∃ n, tells (acall F (aexec F n) (.fn f [] []) as (heap0 gs)) v = true) : PrOk E P f (memoF gs p) := by
  refine ⟨hf, fun {as v h} hm {m w args} hgl r hl => ?_⟩
  unfold memoF at hm
  split at hm <;> first | (simp at hm; done) | skip
  rename_i hs
  obtain ⟨h1, h2, n, h3⟩ := hp as v hm
  unfold tells at h3
  split at h3 <;> first | (simp at h3; done) | skip
  rename_i x h' hrun
  have hx := same_eq _ _ h3
  subst hx
  have hheld : Held0 E (map0 gs.length w.heap) gs w.heap := by
    intro b g hb
    obtain ⟨ro, hget⟩ := sameGs_spec hs b g hb
    rw [Nat.zero_add] at hget
    obtain ⟨cb, k1, c, fz, k2, k3, k4, k5, _⟩ := r.dom b _ hget
    have hlt : b < P.globals.size := by
      rw [hg]
      have := lt_of_some (hp := gs.toArray) (r := b) (by simpa using hb)
      simpa using this
    obtain ⟨cb', q1, q2⟩ := hgl b hlt
    rw [k1] at q1; cases q1
    rw [q2] at k2
    refine ⟨c, fz, k2, by omega, fun i a ha => ?_⟩
    obtain ⟨y, e1, e2, e3⟩ := k5 i a ha
    refine ⟨y, e1, VR.plain a y ?_ e2, e3⟩
    have := hgp g (List.mem_of_getElem? hb)
    have hall : ∀ (l : List AV), AV.plain.plains l = true → ∀ z ∈ l, z.plain = true := by
      intro l
      induction l with
      | nil => intro _ z hz; simp at hz
      | cons q l ih =>
        intro hl z hz
        simp only [AV.plain.plains, Bool.and_eq_true] at hl
        rcases List.mem_cons.1 hz with rfl | hz
        · exact hl.1
        · exact ih hl.2 z hz
    exact hall _ this a (List.mem_of_getElem? ha)
  have := run_calls hE hP hrun hheld hg (LR.plains as _ h1 hl)
  rw [callsIn_wide]
  refine this.mono fun e W' ⟨y, m', q1, q2, q3⟩ => ?_
  subst q1
  have hkeep : ∀ k, k < w.heap.size → W'.heap[k]? = w.heap[k]? := q3.block
  refine ⟨m, VR.plain _ _ h2 q2, ⟨fun b z hb => ?_, r.inj, r.fresh⟩, ⟨q3.size, fun k hk _ => hkeep k hk, fun _ _ h => h, fun _ _ h => h, Ext.refl m, Nat.le_refl _, fun _ _ h _ => h⟩, q3.tape, q3.os, q3.output⟩
  obtain ⟨cb, z1, z2⟩ := r.dom b z hb
  exact ⟨cb, z1, z2.of_eq (hkeep _ z2.lt)⟩

theorem memo_ok {F : Env} (hE : EnvOk E P F) (hP : P.follows .mixedOrders = true) {gs : List (List AV × Nat)} (hg : P.globals.size = gs.length) (hgp : ∀ g ∈ gs, AV.plain.plains g.1 = true) {f : Nat}
    (hf : ∃ fn c, P.funcs[f]? = some fn ∧ fn.body = some c ∧ fn.name ≠ "runtime.NumGoroutine") {tab : List (List AV × AV)}
    (hp : ∀ r ∈ tab, AV.plain.plains r.1 = true ∧ r.2.plain = true ∧ ∃ n, tells (acall F (aexec F n) (.fn f [] []) r.1 (heap0 gs)) r.2 = true) : PrOk E P f (memo gs tab) := by
  have : memo gs tab = memoF gs (look tab) := rfl
  rw [this]
  exact memoF_ok hE hP hg hgp hf (fun as v h => hp (as, v) (look_spec h))
end
theorem tells_true {r : Res} (h : tells r (.bool true) = true) : ∃ h', r = some (.bool true, h') := by
  unfold tells at h
  split at h
  · rename_i x h' 
    rw [same_eq _ _ h]
    exact ⟨h', rfl⟩
  · cases h
end Go.Ab
