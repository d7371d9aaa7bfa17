/-
  The abstract machine's ranges over functions are the model's.
-/
import Derived.Test.YtpbcecibooaebaaGreatDoorAbRun4
namespace Go.Ab
open Go

section
variable {E : Cx} {m m' m'' : Mp} {P : Program}

theorem params_fr : ∀ {ps : List Nat} {as : List AV} {vs : List Value} {tm : FT} {tmps : Array Value}, LR E m as vs → FR E m tm tmps → (∀ p ∈ ps, p < tmps.size) → ps.length = as.length →
    FR E m (setParams ps as tm) ((ps.zip vs).foldl (fun t p => t.setIfInBounds p.1 p.2) tmps) ∧ ((ps.zip vs).foldl (fun t p => t.setIfInBounds p.1 p.2) tmps).size = tmps.size := by
  intro ps
  induction ps with
  | nil => intro as vs tm tmps _ hf _ _; exact ⟨hf, rfl⟩
  | cons p ps ih =>
    intro as vs tm tmps hl hf hp hlen
    cases as with
    | nil => simp at hlen
    | cons a as =>
      obtain ⟨v, ws, rfl, h1, h2⟩ := hl.cons_inv
      have e : setParams (p :: ps) (a :: as) tm = setParams ps as (setNth tm a p) := rfl
      rw [e, List.zip_cons_cons, List.foldl_cons]
      obtain ⟨g1, g2⟩ := ih (tm := setNth tm a p) (tmps := tmps.setIfInBounds p v) h2 (hf.put (hp p (List.mem_cons_self ..)) h1)
        (fun q hq => by rw [Array.size_setIfInBounds]; exact hp q (List.mem_cons_of_mem _ hq)) (by simpa using hlen)
      exact ⟨g1, by rw [g2, Array.size_setIfInBounds]⟩

theorem Rel.loop {h : AH} {hp : Hp} (r : Rel E m h hp) {b : Nat} {cb : CB} (hm : m b = some cb) {tm : FT} {ps : List Nat} {asg body : AC} {st : LS} (hb : h.get b = some (.loop tm ps asg body st)) :
    BR E m (.loop tm ps asg body st) cb hp := by
  obtain ⟨cb', h1, h2⟩ := r.dom b _ hb
  rw [hm] at h1; cases h1
  exact h2

/-- a loop's record goes on -/
theorem Rel.loop_put {h : AH} {w : World} (r : Rel E m h w.heap) {b : Nat} {cb : CB} (hm : m b = some cb) {tm : FT} {ps : List Nat} {asg body : AC} {st st' : LS}
    (hb : h.get b = some (.loop tm ps asg body st)) {r0 : Loop} (h0 : w.heap[cb.blk]? = some (.loop r0)) {state : LoopState} {pending : Option Code}
    (hst : LSR st' { r0 with state := state, pending := pending }) :
    (setObj cb.blk (.loop { r0 with state := state, pending := pending })).run P w = .ok () { w with heap := w.heap.setIfInBounds cb.blk (.loop { r0 with state := state, pending := pending }) } ∧
    Rel E m (h.put b (.loop tm ps asg body st')) (w.heap.setIfInBounds cb.blk (.loop { r0 with state := state, pending := pending })) ∧
    Fr m h w.heap m (h.put b (.loop tm ps asg body st')) (w.heap.setIfInBounds cb.blk (.loop { r0 with state := state, pending := pending })) := by
  obtain ⟨r1, nt, g1, g2, g3, g4, g5, g6, g7, g8⟩ := r.loop hm hb
  rw [h0] at g1; cases g1
  have hlt := lt_of_some h0
  refine ⟨by simp [setObj, Sem.run, h0], ?_⟩
  exact r.put (y := .loop tm ps asg body st') hb rfl hm ⟨{ r0 with state := state, pending := pending }, nt, by simp [hlt], g2, g3, g4, g5, g6, g7, hst⟩

theorem run_getLoop' {w : World} {l : Nat} {r : Loop} (h : w.heap[l]? = some (.loop r)) : (Instr.getLoop l).run P w = .ok r w := by
  unfold Instr.getLoop
  have hg : (getObj l).run P w = .ok (.loop r) w := by simp [getObj, Sem.run, h]
  rw [bind_ok hg]; rfl

theorem yield_call {F : Env} (hE : EnvOk E P F) {n : Nat} (ih : CodeOk E P F n) {b : Nat} {as : List AV} {h h' : AH} {v : AV} (hv : acall F (aexec F n) (.yield b) as h = some (v, h'))
    {w : World} {args : Array Value} {cb : CB} (hg : Globs P m) (r : Rel E m h w.heap) (hl : LR E m as args.toList) (hm : m b = some cb) :
    ∃ f tmps assign body, (Instr.yield cb.blk args).run P w = .ok (.round cb.blk f tmps assign body) w ∧ RoundIn Fence.wide 0 P cb.blk f tmps assign body w (CallPost E m h w v h') := by
  unfold acall at hv
  simp only at hv
  split at hv <;> first | (simp at hv; done) | skip
  rename_i tm ps asg body hb
  split at hv <;> first | (simp at hv; done) | skip
  rename_i hlen
  have hlen : ps.length = as.length := by simpa using hlen
  obtain ⟨r0, nt, g1, g2, g3, g4, g5, g6, g7, g8⟩ := r.loop hm hb
  rw [hE.prog] at g4 g5
  let tmps := (r0.params.zip args).foldl (fun tmps (p : Nat × Value) => tmps.setIfInBounds p.1 p.2) r0.tmps
  have htm : tmps = (ps.zip args.toList).foldl (fun t p => t.setIfInBounds p.1 p.2) r0.tmps := by
    simp only [tmps]
    rw [← Array.foldl_toList, Array.toList_zip, g2]
  refine ⟨r0.fn, tmps, r0.assign, r0.body, ?_, ?_⟩
  · unfold Instr.yield
    rw [bind_ok (run_getLoop' g1)]
    have hsz : args.size = r0.params.size := by
      have h1 := hl.1
      have h2 : r0.params.size = ps.length := by rw [← g2]; simp
      simp at h1; omega
    rw [if_neg (by simpa using hsz)]
    rfl
  refine roundIn_of_wpIn trivial ?_
  have hpar := params_fr (ps := ps) hl (tm := tm) (tmps := r0.tmps) g7 (fun p hp => by rw [g6]; exact g3 p hp) hlen
  rw [← htm] at hpar
  have har : AR E m P nt ⟨setParams ps as tm, h⟩ { tmps := tmps, defers := [] } w := ⟨r, hpar.1, hg, by rw [hpar.2, g6]⟩
  unfold around1 at hv
  split at hv <;> first | (simp at hv; done) | skip
  rename_i s1 hs1
  rw [← g4] at hs1
  refine wpIn_mono (ih nt true r0.assign (some cb.blk) (by simp) har hs1) ?_
  rintro ex a1 w1 ⟨rfl, m1, st⟩
  have hm1 : m1 b = some cb := st.fr.ext b cb hm
  split at hv <;> first | (simp at hv; done) | skip
  rename_i tm1 ps1 asg1 body1 hb1
  obtain ⟨r1, nt1, k1, k2, k3, k4, k5, k6, k7, k8⟩ := st.ar.rel.loop hm1 hb1
  have k8 : r1.state = .ready ∧ r1.pending = none := k8
  obtain ⟨p1, p2, p3⟩ := st.ar.rel.loop_put (P := P) hm1 hb1 k1 (st' := .busy) (state := .busy) (pending := r1.pending) ⟨rfl, k8.2⟩
  refine ⟨{ w1 with heap := w1.heap.setIfInBounds cb.blk (.loop { r1 with state := .busy, pending := r1.pending }) }, ?_, ?_⟩
  · unfold Instr.beginRound
    rw [bind_ok (run_getLoop' k1)]
    have p1' : (setObj cb.blk (.loop { r1 with state := .busy })).run P w1 = .ok () { w1 with heap := w1.heap.setIfInBounds cb.blk (.loop { r1 with state := .busy, pending := r1.pending }) } := p1
    rw [bind_ok p1', k8.1]
    rfl
  unfold around at hv
  split at hv <;> first | (simp at hv; done) | skip
  rename_i e2 s2 hs2
  rw [← g5] at hs2
  have har1 : AR E m1 P nt ⟨s1.tm, s1.h.put b (.loop tm1 ps1 asg1 body1 .busy)⟩ a1 { w1 with heap := w1.heap.setIfInBounds cb.blk (.loop { r1 with state := .busy, pending := r1.pending }) } :=
    ⟨p2, st.ar.fr, st.ar.glob, st.ar.size⟩
  refine wpIn_mono (ih nt true r0.body (some cb.blk) (by simp) har1 hs2) ?_
  rintro ex a2 w2 ⟨rfl, m2, st2⟩
  have hm2 : m2 b = some cb := st2.fr.ext b cb hm1
  split at hv <;> first | (simp at hv; done) | skip
  rename_i tm2 ps2 asg2 body2 hb2
  obtain ⟨r2, nt2, q1, q2, q3, q4, q5, q6, q7, q8⟩ := st2.ar.rel.loop hm2 hb2
  have fin : ∀ {st' : LS} {state : LoopState} {pending : Option Code} {vb : Bool}, LSR st' { r2 with state := state, pending := pending } → some (AV.bool vb, s2.h.put b (.loop tm2 ps2 asg2 body2 st')) = some (v, h') →
      ∃ w3, (setObj cb.blk (.loop { r2 with state := state, pending := pending })).run P w2 = .ok () w3 ∧ CallPost E m h w v h' (.returned (.bool vb)) w3 := by
    intro st' state pending vb hst he
    cases he
    obtain ⟨t1, t2, t3⟩ := st2.ar.rel.loop_put (P := P) hm2 hb2 q1 hst
    refine ⟨_, t1, m2, .bool vb, t2, ?_, ⟨?_, ?_, ?_⟩⟩
    · exact (st.fr.trans p3).trans (st2.fr.trans t3)
    · exact st2.same.1.trans st.same.1
    · exact st2.same.2.trans st.same.2
    · exact st2.same.3.trans st.same.3
  cases e2 with
  | normal =>
    obtain ⟨w3, t1, t2⟩ := fin (st' := .ready) (state := .ready) (pending := none) ⟨rfl, rfl⟩ hv
    refine ⟨.bool true, w3, ?_, t2⟩
    unfold Instr.endRound
    rw [bind_ok (run_getLoop' q1)]
    exact Eq.trans (bind_ok t1) rfl
  | exit id =>
    obtain ⟨w3, t1, t2⟩ := fin (st' := .done (.exit id)) (state := .done) (pending := some (.exit id)) ⟨rfl, rfl⟩ hv
    refine ⟨.bool false, w3, ?_, t2⟩
    unfold Instr.endRound
    rw [bind_ok (run_getLoop' q1)]
    exact Eq.trans (bind_ok t1) rfl
  | ret =>
    obtain ⟨w3, t1, t2⟩ := fin (st' := .done .ret) (state := .done) (pending := some .ret) ⟨rfl, rfl⟩ hv
    refine ⟨.bool false, w3, ?_, t2⟩
    unfold Instr.endRound
    rw [bind_ok (run_getLoop' q1)]
    exact Eq.trans (bind_ok t1) rfl

theorem call_ok {F : Env} (hE : EnvOk E P F) {n : Nat} (ih : CodeOk E P F n) : CallOk E P (acall F (aexec F n)) :=
  ⟨fun hv => fn_call hE ih hv, fun hv => fun hg r hl hm => yield_call hE ih hv hg r hl hm, fun {f as h r} hv => by
    cases f <;> first | exact .inl ⟨_, _, _, rfl⟩ | exact .inr ⟨_, rfl⟩ | (simp [acall] at hv)⟩

theorem range_ok {F : Env} (hE : EnvOk E P F) (n : Nat) : RangeOk E P F n := by
  intro hk nt g ps asg body f m s s' e a w hf hps har hx
  unfold arfunc at hx
  split at hx <;> first | (simp at hx; done) | skip
  rename_i gf first caps hopd
  split at hx <;> first | (simp at hx; done) | skip
  rename_i v h1 hcall
  let lp : Loop := { state := .ready, pending := none, fn := 0, tmps := a.tmps, params := ps, assign := asg, body := body, defers := w.heap.size }
  obtain ⟨⟨fn0, cd, k1, k2, k3⟩, k4⟩ := hk.fn hcall
  refine wpIn_rangeFunc (F := fen none) (fun fn _ => ?_)
  let lpf : Loop := { lp with fn := fn }
  let w1 : World := (w.alloc (.deferred (some []))).alloc (.loop lpf)
  have hw1 : w1.heap = (w.heap.push (.deferred (some []))).push (.loop lpf) := rfl
  -- the abstract heap with the record
  obtain ⟨r0, f0⟩ := har.rel.push (.deferred (some []))
  obtain ⟨m1, r1, f1, hm1⟩ := r0.newAt (NewAt.new r0 (.loop s.tm ps.toList (cCode P nt true asg) (cCode P nt true body) .ready)) (o := .loop lpf) (sz := 0) (fun m' hm' =>
    ⟨lpf, nt, by rw [Array.getElem?_push, if_pos rfl], rfl, hps, by rw [hE.prog], by rw [hE.prog], har.size, fun i => (har.fr i).mono hm', rfl, rfl⟩)
  have hsz : (w.heap.push (.deferred (some []))).size = w.heap.size + 1 := by simp
  have f1 := f1.lift (fun b hb => by cases hb; exact Nat.le_refl _)
  rw [hsz] at hm1
  have vf := cOpd_sound (E := E) har.glob hf har.fr
  rw [hopd] at vf
  have e1 : Ext m m1 := f0.ext.trans f1.ext
  generalize hz : a.eval g = z at vf
  cases vf with
  | fn ha hva hb hvb =>
  rename_i vs ws
  have hres : (resolve a.eval (rangeCall g (w.heap.size + 1)) 0).run P w1 = .ok { target := .fn (.func gf) ws, args := vs ++ #[Value.func (.yield (w.heap.size + 1)) #[] #[]] } w1 := by
    have hmap : (#[Operand.const (.func (.yield (w.heap.size + 1)) #[] #[])] : Array Operand).map a.eval = #[.func (.yield (w.heap.size + 1)) #[] #[]] := by simp [Act.eval]
    simp only [resolve, hz, hmap]
    rfl
  have hargs : LR E m1 (first ++ [.yield s.h.next] ++ caps) (vs ++ #[Value.func (.yield (w.heap.size + 1)) #[] #[]] ++ ws).toList := by
    simp only [Array.toList_append]
    exact (((LR.of_arr ha hva).mono e1).append (LR.cons (.yield hm1) LR.nil)).append ((LR.of_arr hb hvb).mono e1)
  have hc := k4 (har.glob.mono e1) (w := w1) r1 hargs
  refine ⟨w.heap.size + 1, [markOf w.heap.size], w1, { target := .fn (.func gf) ws, args := vs ++ #[Value.func (.yield (w.heap.size + 1)) #[] #[]] }, w1, gf,
    vs ++ #[Value.func (.yield (w.heap.size + 1)) #[] #[]] ++ ws, w1, run_enterLoop_outer fn a.tmps ps asg body, hres, fun _ _ => trivial, ?_, fun h => by simp [fen, Fence.wide] at h, ?_⟩
  · simp only [invoke]
    exact run_callFunc_enter k1 k2 k3 _ w1
  refine CallsIn.mono hc (fun ex w3 hp => ?_)
  cases ex with
  | panicked chain => exact hp.elim
  | outgrown => exact hp.elim
  | returned x =>
  obtain ⟨m3, p1, p2, p3, p4⟩ := hp
  have hm3 : m3 s.h.next = some ⟨w.heap.size + 1, 0⟩ := p3.ext _ _ hm1
  -- the mark's block
  have hmark1 : w1.heap[w.heap.size]? = some (.deferred (some [])) := by
    rw [hw1, Array.getElem?_push, if_neg (by simp), Array.getElem?_push, if_pos rfl]
  have hnp1 : ¬ Present m1 (s.h.new (.loop s.tm ps.toList (cCode P nt true asg) (cCode P nt true body) .ready)) w.heap.size := by
    rintro ⟨b, y, cb, hb1, hb2, hb3⟩
    rw [AH.get_new] at hb1
    by_cases e : s.h.next = b
    · rw [← e, hm1] at hb2
      cases hb2
      simp at hb3
    · rw [if_neg e] at hb1
      obtain ⟨cb', q1, q2⟩ := har.rel.dom b y hb1
      rw [e1 b cb' q1] at hb2
      cases hb2
      have := q2.lt
      omega
  have hw1s : w1.heap.size = w.heap.size + 2 := by rw [hw1]; simp
  have fin : ∀ {tm' : FT} {ps' : List Nat} {asg' body' : AC} {st : LS} {e' : AExit} {jump : Option Code}, h1.get s.h.next = some (.loop tm' ps' asg' body' st) →
      (∀ r : Loop, LSR st r → r.state ≠ .busy ∧ r.pending = jump) → some (e', (⟨s.tm, h1.del s.h.next⟩ : St)) = some (e, s') →
      ∃ w4, (Instr.endLoop (w.heap.size + 1)).run P w3 = .ok jump w4 ∧ ∃ m', Stp E P nt m m' s s' a { a with defers := [markOf w.heap.size] ++ a.defers } w w4 := by
    intro tm' ps' asg' body' st e' jump hget hst he
    cases he
    obtain ⟨r2, nt2, q1, q2, q3, q4, q5, q6, q7, q8⟩ := p2.loop hm3 hget
    obtain ⟨hb1, hb2⟩ := hst r2 q8
    obtain ⟨t1, t2, t3⟩ := p2.loop_put (P := P) hm3 hget q1 (st' := .over) (state := .exhausted) (pending := r2.pending) rfl
    obtain ⟨u1, u2⟩ := t2.del s.h.next
    have hgd : ∀ c, (h1.del s.h.next).get c = ((h1.put s.h.next (.loop tm' ps' asg' body' .over)).del s.h.next).get c := by
      intro c
      simp only [AH.get_del, AH.get_put]
      split <;> rfl
    refine ⟨{ w3 with heap := w3.heap.setIfInBounds (w.heap.size + 1) (.loop { r2 with state := .exhausted, pending := r2.pending }) }, ?_, m3, ⟨u1.congr hgd rfl, ?_, ?_, har.size⟩, ?_, ?_, ?_⟩
    · rw [run_endLoop q1 hb1, hb2]
      rfl
    · exact har.fr.mono (e1.trans p3.ext)
    · exact har.glob.mono (e1.trans p3.ext)
    · exact ((f0.trans f1).trans (Fr.trans p3 (t3.trans u2))).congr hgd rfl
    · exact ⟨p4.1, p4.2, p4.3⟩
    · refine ⟨[w.heap.size], rfl, by simp, ?_⟩
      intro r hr
      have hr : r = w.heap.size := by simpa using hr
      subst hr
      refine ⟨Nat.le_refl _, ?_, ?_⟩
      · show (w3.heap.setIfInBounds (w.heap.size + 1) _)[w.heap.size]? = _
        rw [Array.getElem?_setIfInBounds, if_neg (by omega), p3.keep _ (by rw [hw1s]; omega) (fun ho => hnp1 ho.present)]
        exact hmark1
      · intro hpr
        have := (Fr.trans p3 (t3.trans u2)).congr hgd rfl
        exact hnp1 (this.pres _ (by rw [hw1s]; omega) hpr)
  split at hx <;> first | (simp at hx; done) | skip
  · rename_i tm' ps' asg' body' hget
    obtain ⟨w4, g1, m', g2⟩ := fin (jump := none) hget (fun r hr => ⟨by rw [hr.1]; simp, hr.2⟩) hx
    cases hx
    exact ⟨none, w4, g1, rfl, m', g2⟩
  · rename_i tm' ps' asg' body' e0 hget
    cases e0 with
    | normal =>
      obtain ⟨r2, nt2, q1, q2, q3, q4, q5, q6, q7, q8⟩ := p2.loop hm3 hget
      exact q8.elim
    | exit id =>
      obtain ⟨w4, g1, m', g2⟩ := fin (jump := some (.exit id)) hget (fun r hr => ⟨by rw [hr.1]; simp, hr.2⟩) hx
      cases hx
      exact ⟨some (.exit id), w4, g1, wpIn_exit ⟨rfl, m', g2⟩⟩
    | ret =>
      obtain ⟨w4, g1, m', g2⟩ := fin (jump := some .ret) hget (fun r hr => ⟨by rw [hr.1]; simp, hr.2⟩) hx
      cases hx
      exact ⟨some .ret, w4, g1, wpIn_ret ⟨rfl, m', g2⟩⟩

/-- all code, at any count of steps -/
theorem code_ok {F : Env} (hE : EnvOk E P F) (hd : DrawOk E P) : ∀ n k, k ≤ n → CodeOk E P F k := by
  intro n
  induction n with
  | zero =>
    intro k hk nt inr code m s s' e a w ro _ _ hx
    have : k = 0 := by omega
    subst this
    exact absurd (show none = some (e, s') from hx) (by simp)
  | succ n ih =>
    intro k hk
    by_cases h : k ≤ n
    · exact ih k h
    · have : k = n + 1 := by omega
      subst this
      exact code_step hd (call_ok hE (ih n (Nat.le_refl _))) (range_ok hE n) ih
end
end Go.Ab
