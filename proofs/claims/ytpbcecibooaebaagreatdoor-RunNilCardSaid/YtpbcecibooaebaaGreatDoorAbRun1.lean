/-
  The abstract machine's operations, calls and all, as laws of the walk.
-/
import Derived.Test.YtpbcecibooaebaaGreatDoorAbAct9
import Derived.RangeFuncLeaves
import Derived.OrdersIn
namespace Go.Ab
open Go

section
variable {E : Cx} {m : Mp} {P : Program}

/-- the fences of the walk: within a round of a loop, or not -/
def fen (ro : Option Nat) : Fence := { Fence.wide with round := ro }

theorem fen_none : fen none = Fence.wide := rfl

def CallPost (E : Cx) (m : Mp) (h : AH) (w : World) (v : AV) (h' : AH) : Ending → World → Prop
  | .returned x, w' => Post E m h w v h' x w'
  | _, _ => False

/-- calls of the abstract machine are calls of the model's -/
structure CallOk (E : Cx) (P : Program) (call : Call) : Prop where
  fn : ∀ {f : Nat} {a b : List AV} {as : List AV} {h h' : AH} {v : AV}, call (.fn f a b) as h = some (v, h') → (∃ fn c, P.funcs[f]? = some fn ∧ fn.body = some c ∧ fn.name ≠ "runtime.NumGoroutine") ∧
    ∀ {m : Mp} {w : World} {args : Array Value}, Globs P m → Rel E m h w.heap → LR E m as args.toList → CallsIn Fence.wide 0 P f args w (CallPost E m h w v h')
  yield : ∀ {b : Nat} {as : List AV} {h h' : AH} {v : AV}, call (.yield b) as h = some (v, h') → ∀ {m : Mp} {w : World} {args : Array Value} {cb : CB}, Globs P m → Rel E m h w.heap →
    LR E m as args.toList → m b = some cb → ∃ f tmps assign body, (Instr.yield cb.blk args).run P w = .ok (.round cb.blk f tmps assign body) w ∧
      RoundIn Fence.wide 0 P cb.blk f tmps assign body w (CallPost E m h w v h')
  other : ∀ {f : AV} {as : List AV} {h : AH} {r : AV × AH}, call f as h = some r → (∃ g a b, f = .fn g a b) ∨ ∃ b, f = .yield b

/-- what an instruction gives -/
noncomputable def AI.gives (i : AI) (call : Call) (tm : FT) (h : AH) : Res :=
  match i.act with
  | true => i.run.f call tm h
  | false => match i.pure.f tm h with
    | some v => some (v, h)
    | none => none

theorem run_callFunc_enter {f : FuncId} {fn : Func} {c : Code} (hf : P.funcs[f]? = some fn) (hb : fn.body = some c) (hn : fn.name ≠ "runtime.NumGoroutine") (args : Array Value) (w : World) :
    (callFunc f args).run P w = .ok (.enter f args) w := by
  unfold callFunc
  have hp : (Go.program).run P w = .ok P w := rfl
  rw [bind_ok hp]
  simp [hf, hb, hn]

theorem cOp_not_defer {op : Op} {i : AI} (h : cOp P op = some i) (c : Go.Call) : op ≠ .defer c := by
  rintro rfl
  simp [cOp] at h

theorem call_only {op : Op} {i : AI} (hc : cOp P op = some i) (hi : i.isCall = true) : ∃ c, op = .call c := by
  unfold cOp at hc
  split at hc <;> first | (simp at hc; done) | skip
  all_goals first
    | exact ⟨_, rfl⟩
    | (exfalso
       simp only [cBin, cConv, cSlice, cIAddr, cIndex, cAssert] at hc
       repeat (split at hc <;> first | (simp at hc; done) | (cases hc; simp [AI.isCall] at hi; done) | skip)
       done)
    | (exfalso
       repeat (split at hc <;> first | (simp at hc; done) | (cases hc; simp [AI.isCall] at hi; done) | skip)
       done)

theorem call_of {o : Oper} {f : Opd} {xs : List Opd} (hc : cOp P o.op = some (.call f xs)) :
    ∃ c fv, o.op = .call c ∧ c.callee = .value fv ∧ (cOpd P fv = some f) ∧ cOpds P c.args.toList = some xs := by
  obtain ⟨c, he⟩ := call_only hc rfl
  rw [he] at hc
  simp only [cOp] at hc
  split at hc <;> first | (simp at hc; done) | skip
  rename_i ys hys
  split at hc <;> first | (simp at hc; done) | skip
  · exfalso
    unfold cBuiltin at hc
    repeat (split at hc <;> first | (simp at hc; done) | skip)
  · rename_i fv hfv
    unfold cCall at hc
    split at hc
    · split at hc <;> first | (simp at hc; done) | skip
      split at hc
      · simp only [Option.some.injEq, AI.call.injEq] at hc
        obtain ⟨rfl, rfl⟩ := hc
        exact ⟨c, _, he, hfv, rfl, hys⟩
      · exfalso
        unfold cExtern at hc
        repeat (split at hc <;> first | (simp at hc; done) | skip)
    · split at hc <;> first | (simp at hc; done) | skip
      rename_i g hg
      simp only [Option.some.injEq, AI.call.injEq] at hc
      obtain ⟨rfl, rfl⟩ := hc
      exact ⟨c, _, he, hfv, hg, hys⟩

theorem about_of {o : Oper} {ro : Option Nat} (a : Act) (w : World) : ∀ f, o.about P w a.eval = some f → (fen ro).fn f := fun _ _ => trivial

theorem LR.of_arr {as : List AV} {vs : Array Value} (ha : as.length = vs.size) (h : ∀ (i : Nat) a v, as[i]? = some a → vs[i]? = some v → VR E m a v) : LR E m as vs.toList :=
  ⟨by simp [ha], fun i a v h1 h2 => h i a v h1 (by simpa using h2)⟩

/-- an operation, in the walk -/
theorem op_sound {call : Call} (hk : CallOk E P call) (hg : Globs P m) {o : Oper} {i : AI} (hc : cOp P o.op = some i) {h h' : AH} {w : World} (r : Rel E m h w.heap) {tm : FT} {a : Act}
    (hf : FR E m tm a.tmps) {v : AV} (hv : i.gives call tm h = some (v, h')) {ro : Option Nat} {K : Act → World → Prop} {Q : Exit → Act → World → Prop}
    (hK : ∀ x w', Post E m h w v h' x w' → K (a.put o.dst x) w') : o.wpIn (fen ro) 0 P a w K Q := by
  refine ⟨about_of a w, ?_⟩
  rw [Oper.semAt_eq _ _ _ (cOp_not_defer hc)]
  unfold AI.gives at hv
  split at hv
  · rename_i hact
    cases hcall : i.isCall with
    | false =>
      obtain ⟨n, w', x, g1, g2, g3⟩ := act_sound hg hc hact hcall r hf hv
      rw [g1]
      rcases g2 with rfl | ⟨rfl, rfl⟩
      · exact hK x w' g3
      · exact hK Go.undef w' g3
    | true =>
      cases i <;> first | (simp [AI.isCall] at hcall; done) | skip
      rename_i f xs
      obtain ⟨c, fv, he, hcal, hfv, hxs⟩ := call_of hc
      have vf := cOpd_sound (E := E) hg hfv hf
      have hl := cOpds_sound (E := E) hg hxs hf
      have hlr : LR E m (opds xs tm) (c.args.map a.eval).toList := by simpa using hl
      simp only [AI.run, acallv] at hv
      have hex : (execOp a.eval o).run P w = (do let d ← Deferred.ofValue (a.eval fv) (c.args.map a.eval); invoke d.target d.args : Sem Next).run P w := by
        unfold execOp; rw [he]
        simp only [resolve, hcal]
      rw [hex]
      split at hv <;> first | (simp at hv; done) | skip
      · rename_i g first caps hopd
        rw [hopd] at vf
        generalize a.eval fv = z at vf
        cases vf with
        | fn ha h1 hb h2 =>
          rename_i vs ws
          have hd : (Deferred.ofValue (.func (.func g) vs ws) (c.args.map a.eval)).run P w = .ok { target := .fn (.func g) ws, args := vs ++ c.args.map a.eval } w := rfl
          rw [bind_ok hd]
          obtain ⟨⟨fn, cd, k1, k2, k3⟩, k4⟩ := hk.fn hv
          simp only [invoke]
          rw [run_callFunc_enter k1 k2 k3]
          have hargs : LR E m (first ++ opds xs tm ++ caps) (vs ++ c.args.map a.eval ++ ws).toList := by
            simp only [Array.toList_append]
            exact ((LR.of_arr ha h1).append hlr).append (LR.of_arr hb h2)
          refine ⟨fun h => by simp [fen, Fence.wide] at h, ?_⟩
          refine CallsIn.mono (F := fen ro) (n := 0) (k4 hg r hargs) (fun e w' he => ?_)
          cases e with
          | returned x => exact hK x w' he
          | panicked chain => exact he.elim
          | outgrown => exact he.elim
      · rename_i b hopd
        rw [hopd] at vf
        generalize a.eval fv = z at vf
        cases vf with
        | yield hm =>
          rename_i cb
          have hd : (Deferred.ofValue (.func (.yield cb.blk) #[] #[]) (c.args.map a.eval)).run P w = .ok { target := .fn (.yield cb.blk) #[], args := #[] ++ c.args.map a.eval } w := rfl
          rw [bind_ok hd]
          simp only [invoke, Array.empty_append]
          obtain ⟨f', tmps, asg, body, k1, k2⟩ := hk.yield hv hg r hlr hm
          rw [k1]
          refine ⟨fun h => by simp [fen, Fence.wide] at h, ?_⟩
          refine RoundIn.mono (F := fen ro) (n := 0) k2 (fun e w' he => ?_)
          cases e with
          | returned x => exact hK x w' he
          | panicked chain => exact he.elim
          | outgrown => exact he.elim
  · rename_i hact
    split at hv <;> first | (simp at hv; done) | skip
    rename_i v' hv'
    simp only [Option.some.injEq, Prod.mk.injEq] at hv
    obtain ⟨rfl, rfl⟩ := hv
    obtain ⟨x, g1, g2⟩ := pure_sound hg hc hact r hf hv'
    rw [g1]
    exact hK x w (Post.of rfl (Same.refl w) r g2)
end
end Go.Ab
