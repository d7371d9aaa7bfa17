/-
  The abstract machine's calls are the model's.
-/
import Derived.Test.YtpbcecibooaebaaGreatDoorAbRun3
import Derived.Laws.Sem
import Derived.RangeFuncRecord
namespace Go.Ab
open Go

section
variable {E : Cx} {m m' m'' : Mp} {P : Program}

theorem ofArgs_nth : ∀ (as : List AV) (k : Nat) (tm : FT) (i : Nat), nth (ofArgs as k tm) i = if k ≤ i ∧ i < k + as.length then as.getD (i - k) undef else nth tm i := by
  intro as
  induction as with
  | nil => intro k tm i; rw [if_neg (by simp only [List.length_nil]; omega)]; rfl
  | cons a as ih =>
    intro k tm i
    have e : ofArgs (a :: as) k tm = withN (k + 1) fun j => ofArgs as j (setNth tm a k) := rfl
    rw [e, withN_eq, ih, nth_setNth]
    by_cases h1 : k + 1 ≤ i ∧ i < k + 1 + as.length
    · rw [if_pos h1, if_pos (by simp; omega), show i - k = (i - (k + 1)) + 1 by omega]
      rfl
    · rw [if_neg h1]
      by_cases h2 : k = i
      · rw [if_pos h2, if_pos (by simp; omega), show i - k = 0 by omega]; rfl
      · rw [if_neg h2, if_neg (by simp; omega)]

theorem results_sound {nt : Nat} {s : St} {a : Act} {w : World} (har : AR E m P nt s a w) : ∀ {rv : List ResultVar} {rs : List RV} {vs : List AV}, mapO (cRV P) rv = some rs → resultsOf s.tm s.h rs = some vs →
    ∃ xs : List Value, (rv.mapM (fun (r : ResultVar) => (match r with
      | .tmp t => pure (a.tmps.getD t Go.undef)
      | .cell c t => do loadVar t (← asAddr (a.tmps.getD c Go.undef)) : Sem Value))).run P w = Result.ok xs w ∧ LR E m vs xs := by
  intro rv
  induction rv with
  | nil =>
    intro rs vs hc hv
    simp [mapO] at hc
    subst hc
    cases (show some [] = some vs from hv)
    exact ⟨[], by simp, LR.nil⟩
  | cons r rv ih =>
    intro rs vs hc hv
    unfold mapO at hc
    split at hc <;> first | (simp at hc; done) | skip
    rename_i q rs' hq hrs
    cases hc
    rw [List.mapM_cons]
    cases r with
    | tmp t =>
      cases hq
      have e : resultsOf s.tm s.h (.t t :: rs') = match resultsOf s.tm s.h rs' with
        | some vs => some (nth s.tm t :: vs)
        | none => none := rfl
      rw [e] at hv
      split at hv <;> first | (simp at hv; done) | skip
      rename_i vs' hvs
      cases hv
      obtain ⟨xs, g1, g2⟩ := ih hrs hvs
      refine ⟨a.tmps.getD t Go.undef :: xs, ?_, .cons (har.fr t) g2⟩
      rw [bind_ok (run_pure _ w), bind_ok g1]; rfl
    | cell c t =>
      simp only [cRV] at hq
      split at hq <;> first | (simp at hq; done) | skip
      rename_i n agg hw
      cases hq
      have e : resultsOf s.tm s.h (.cell c n agg :: rs') = match aload n agg (nth s.tm c) s.h, resultsOf s.tm s.h rs' with
        | some v, some vs => some (v :: vs)
        | _, _ => none := rfl
      rw [e] at hv
      split at hv <;> first | (simp at hv; done) | skip
      rename_i v vs' hl hvs
      cases hv
      obtain ⟨xs, g1, g2⟩ := ih hrs hvs
      have hx := har.fr c
      obtain ⟨y, k1, k2⟩ := aload_sound har.rel hw hl hx
      have : (do loadVar t (← asAddr (a.tmps.getD c Go.undef)) : Sem Value).run P w = .ok y w := by
        generalize a.tmps.getD c Go.undef = z at hx k1
        have hp : ∃ b o, nth s.tm c = .ptr b o := by
          unfold aload at hl
          split at hl
          · exact ⟨_, _, by assumption⟩
          · simp at hl
        obtain ⟨b, o, hp⟩ := hp
        rw [hp] at hx
        cases hx
        exact k1
      refine ⟨y :: xs, ?_, .cons k2 g2⟩
      rw [bind_ok this, bind_ok g1]; rfl

theorem run_results {nt : Nat} {s : St} {a : Act} {w : World} (har : AR E m P nt s a w) {fn : Func} {rs : List RV} {vs : List AV} (hc : mapO (cRV P) fn.results.toList = some rs)
    (hv : resultsOf s.tm s.h rs = some vs) : ∃ x, (results fn a.tmps).run P w = .ok x w ∧ VR E m (oneOf vs) x := by
  obtain ⟨xs, g1, g2⟩ := results_sound har hc hv
  have hm : (fn.results.mapM (fun (r : ResultVar) => (match r with
      | .tmp t => pure (a.tmps.getD t Go.undef)
      | .cell c t => do loadVar t (← asAddr (a.tmps.getD c Go.undef)) : Sem Value))).run P w = Result.ok xs.toArray w := by
    rw [Array.mapM_eq_mapM_toList]
    rw [map_eq_pure_bind, bind_ok g1]
    rfl
  unfold results
  refine ⟨if h : xs.toArray.size = 1 then xs.toArray[0] else .tuple xs.toArray, Eq.trans (bind_ok hm) rfl, ?_⟩
  have hl := g2.1
  cases vs with
  | nil =>
    have := g2.nil_inv
    subst this
    exact .tup (by simp) (fun i a v h => by simp at h)
  | cons v vs =>
    obtain ⟨x, ys, rfl, h1, h2⟩ := g2.cons_inv
    cases vs with
    | nil =>
      have := h2.nil_inv
      subst this
      exact h1
    | cons v2 vs =>
      obtain ⟨x2, zs, rfl, h3, h4⟩ := h2.cons_inv
      rw [dif_neg (by simp)]
      exact .tup (by simpa using hl) (fun i a v ha hv => g2.2 i a v ha (by simpa using hv))

/-- a block that the abstract heap knows nothing of changes -/
theorem Rel.garbage {h : AH} {hp : Hp} (r : Rel E m h hp) {k : Nat} (hk : ¬ Present m h k) (o : Obj) : Rel E m h (hp.setIfInBounds k o) := by
  refine ⟨fun b x hb => ?_, r.inj, r.fresh⟩
  obtain ⟨cb, h1, h2⟩ := r.dom b x hb
  refine ⟨cb, h1, h2.of_eq ?_⟩
  rw [Array.getElem?_setIfInBounds, if_neg (fun e => hk ⟨b, x, cb, hb, h1, e.symm⟩)]

/-- the way out of a function, its marks and all -/
theorem leaves {nt : Nat} {fn : Func} {R : Ending → World → Prop} {s : St} {a : Act} : ∀ (rs : List Nat) {w : World}, AR E m P nt s a w → rs.Nodup →
    (∀ r ∈ rs, w.heap[r]? = some (.deferred (some [])) ∧ ¬ Present m s.h r) →
    (∀ w', AR E m P nt s a w' → Same w w' → w'.heap.size = w.heap.size → (∀ k, k ∉ rs → w'.heap[k]? = w.heap[k]?) → ∃ v, (results fn a.tmps).run P w' = .ok v w' ∧ R (.returned v) w') →
    LeavesInM Fence.wide 0 P fn a.tmps R (rs.map markOf) .returning w := by
  intro rs
  induction rs with
  | nil =>
    intro w har _ _ hk
    exact hk w har (Same.refl w) rfl (fun _ _ => rfl)
  | cons r rs ih =>
    intro w har hn hr hk
    rw [List.nodup_cons] at hn
    obtain ⟨h1, h2⟩ := hr r (List.mem_cons_self ..)
    refine ⟨by simp, .inl ⟨r, { w with heap := w.heap.setIfInBounds r (.deferred none) }, rfl, ?_, ?_⟩⟩
    · unfold Instr.takeDeferred
      have hg : (getObj r).run P w = .ok (.deferred (some [])) w := by simp [getObj, Sem.run, h1]
      rw [bind_ok hg]
      have hs : (setObj r (.deferred none)).run P w = .ok () { w with heap := w.heap.setIfInBounds r (.deferred none) } := by simp [setObj, Sem.run, h1]
      simp only
      rw [bind_ok hs]
      rfl
    · refine ih ⟨har.rel.garbage h2 _, har.fr, har.glob, har.size⟩ hn.2 (fun q hq => ?_) (fun w' har' hs hsz hkeep => ?_)
      · obtain ⟨g1, g2⟩ := hr q (List.mem_cons_of_mem _ hq)
        refine ⟨?_, g2⟩
        have : r ≠ q := fun e => hn.1 (e ▸ hq)
        simp [this, g1]
      · refine hk w' har' ⟨hs.1, hs.2, hs.3⟩ (by rw [hsz]; simp) (fun k hk' => ?_)
        have h3 : r ≠ k := fun e => hk' (e ▸ List.mem_cons_self ..)
        rw [hkeep k (fun hm => hk' (List.mem_cons_of_mem _ hm))]
        simp [h3]

theorem fn_call {F : Env} (hE : EnvOk E P F) {n : Nat} (ih : CodeOk E P F n) {f : Nat} {a b : List AV} {as : List AV} {h h' : AH} {v : AV} (hv : acall F (aexec F n) (.fn f a b) as h = some (v, h')) :
    (∃ fn c, P.funcs[f]? = some fn ∧ fn.body = some c ∧ fn.name ≠ "runtime.NumGoroutine") ∧
    ∀ {m : Mp} {w : World} {args : Array Value}, Globs P m → Rel E m h w.heap → LR E m as args.toList → CallsIn Fence.wide 0 P f args w (CallPost E m h w v h') := by
  unfold acall at hv
  simp only at hv
  split at hv
  · rename_i v' hv'
    unfold known at hv'
    split at hv' <;> first | (simp at hv'; done) | skip
    rename_i p hp
    simp only [Option.some.injEq, Prod.mk.injEq] at hv
    obtain ⟨rfl, rfl⟩ := hv
    obtain ⟨k1, k2⟩ := hE.pr f p hp
    exact ⟨k1, fun hg r hl => k2 hv' hg r hl⟩
  · split at hv <;> first | (simp at hv; done) | skip
    rename_i fn' hfn'
    split at hv <;> first | (simp at hv; done) | skip
    rename_i hlen
    have hc := hE.fn f fn' hfn'
    unfold cFn at hc
    split at hc <;> first | (simp at hc; done) | skip
    rename_i fn hfn
    split at hc <;> first | (simp at hc; done) | skip
    rename_i c rs hb hrs
    split at hc <;> first | (simp at hc; done) | skip
    rename_i hname
    simp only [Option.some.injEq] at hc
    subst hc
    have hname : fn.name ≠ "runtime.NumGoroutine" := by simpa using hname
    refine ⟨⟨fn, c, hfn, hb, hname⟩, fun {m w args} hg r hl => ?_⟩
    have hlen : as.length ≤ fn.ntmps := by simpa using hlen
    have hsz : as.length = args.size := by have := hl.1; simpa using this
    unfold afinish at hv
    split at hv <;> first | (simp at hv; done) | skip
    rename_i e s1 hs1
    let act : Act := { tmps := args ++ Array.replicate (fn.ntmps - args.size) Go.undef, defers := [] }
    have har : AR E m P fn.ntmps ⟨ofArgs as 0 .nil, h⟩ act w := by
      refine ⟨r, ?_, hg, by simp [act]; omega⟩
      intro i
      simp only [ofArgs_nth, nth_nil]
      simp only [act, Array.getD_eq_getD_getElem?]
      by_cases hi : i < args.size
      · rw [if_pos (by omega), Array.getElem?_append_left hi]
        refine hl.2 i _ _ (by simp [hsz, hi]) (by simp [hi])
      · rw [if_neg (by omega), Array.getElem?_append_right (by omega)]
        have : ((Array.replicate (fn.ntmps - args.size) Go.undef)[i - args.size]?).getD Go.undef = Go.undef := by
          rw [Array.getElem?_replicate]; split <;> rfl
        rw [this]; exact .undef
    refine callsIn_of_wp_marks hfn hb trivial ?_
    refine wpIn_mono (ih fn.ntmps false c none (fun _ => rfl) har hs1) ?_
    rintro ex a1 w1 ⟨rfl, m1, st⟩
    have fin : ∀ {vs : List AV}, resultsOf s1.tm s1.h rs = some vs → some (oneOf vs, s1.h) = some (v, h') →
        LeavesInM Fence.wide 0 P fn a1.tmps (CallPost E m h w v h') a1.defers .returning w1 := by
      intro vs hvs he
      cases he
      obtain ⟨qs, e1, n1, p1⟩ := st.marks
      rw [e1]
      simp only [List.append_nil]
      refine leaves qs st.ar n1 (fun r hr => (p1 r hr).2) (fun w' har' hs hsz' hkeep => ?_)
      obtain ⟨x, k1, k2⟩ := run_results har' hrs hvs
      refine ⟨x, k1, m1, k2, har'.rel, ?_, st.same.trans hs⟩
      refine ⟨by rw [hsz']; exact st.fr.size, fun k hk ho => ?_, st.fr.own, st.fr.pres, st.fr.ext, st.fr.next, st.fr.dom⟩
      rw [hkeep k (fun hm => by have := (p1 k hm).1; omega)]
      exact st.fr.keep k hk ho
    cases e with
    | exit i => simp at hv
    | normal =>
      simp only at hv
      split at hv <;> first | (simp at hv; done) | skip
      rename_i vs hvs
      exact fin hvs hv
    | ret =>
      simp only at hv
      split at hv <;> first | (simp at hv; done) | skip
      rename_i vs hvs
      exact fin hvs hv
end
end Go.Ab
