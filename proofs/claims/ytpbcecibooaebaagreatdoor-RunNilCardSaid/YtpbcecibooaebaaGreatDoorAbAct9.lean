/-
  The abstract machine's instructions that change the heap, all but the calls.
-/
import Derived.Test.YtpbcecibooaebaaGreatDoorAbAct8
namespace Go.Ab
open Go

section
variable {E : Cx} {m : Mp} {P : Program}

theorem run_isNew {i : AI} (hn : i.isNew = true) (call : Call) (tm : FT) (h : AH) : i.run.f call tm h = lays h (i.newBlk.f h.next tm) := by
  cases i <;> first | rfl | (simp [AI.isNew] at hn)

def AI.isCall : AI → Bool
  | .call .. => true
  | _ => false

theorem exec_u' {s : Sem Unit} {w w' : World} (h : s.run P w = .ok () w') : (do s; pure .skip : Sem Next).run P w = .ok .skip w' := exec_u h

theorem act_sound (hg : Globs P m) {o : Oper} {i : AI} (hc : cOp P o.op = some i) (hact : i.act = true) (hcall : i.isCall = false) {h h' : AH} {w : World} (r : Rel E m h w.heap) {tm : FT} {a : Act}
    (hf : FR E m tm a.tmps) {call : Call} {v : AV} (hv : i.run.f call tm h = some (v, h')) :
    ∃ n w' x, (execOp a.eval o).run P w = .ok n w' ∧ Told n x ∧ Post E m h w v h' x w' := by
  cases hn : i.isNew with
  | true =>
    rw [run_isNew hn] at hv
    unfold lays at hv
    split at hv <;> first | (simp at hv; done) | skip
    rename_i v' X hX
    simp only [Option.some.injEq, Prod.mk.injEq] at hv
    obtain ⟨rfl, rfl⟩ := hv
    obtain ⟨n, w', x, g1, g2, g3⟩ := newBlk_sound hg hc hn r hf hX (NewAt.new r X)
    exact ⟨n, w', x, g1, g2, g3.lift (fun b hb => by cases hb; exact Nat.le_refl _)⟩
  | false =>
  unfold cOp at hc
  split at hc <;> first | (simp at hc; done) | skip
  · split at hc <;> first | (simp at hc; done) | (cases hc; simp [AI.act] at hact; done)
  · split at hc <;> first | (simp at hc; done) | (cases hc; simp [AI.act] at hact; done)
  · split at hc <;> first | (simp at hc; done) | (cases hc; simp [AI.act] at hact; done)
  · split at hc <;> first | (simp at hc; done) | (cases hc; simp [AI.isNew] at hn; done)
  · split at hc <;> first | (simp at hc; done) | (cases hc; simp [AI.isNew] at hn; done)
  · split at hc <;> first | (simp at hc; done) | skip
    · split at hc <;> first | (simp at hc; done) | skip
      split at hc <;> first | (simp at hc; done) | (cases hc; simp [AI.act] at hact; done)
    · split at hc <;> first | (simp at hc; done) | skip
      split at hc <;> first | (simp at hc; done) | (cases hc; simp [AI.act] at hact; done)
  · repeat (split at hc <;> first | (simp at hc; done) | (cases hc; simp [AI.isNew] at hn; done) | skip)
  · split at hc <;> first | (simp at hc; done) | (cases hc; simp [AI.act] at hact; done)
  · -- store
    rename_i t x y he
    split at hc <;> first | (simp at hc; done) | skip
    rename_i n cx cy h1 h2 h3
    cases hc
    simp only [AI.run] at hv
    split at hv <;> first | (simp at hv; done) | skip
    rename_i b off hopd
    split at hv <;> first | (simp at hv; done) | skip
    rename_i q1 hw q2 q3 q4
    simp only [Option.some.injEq, Prod.mk.injEq] at hv
    obtain ⟨rfl, rfl⟩ := hv
    have vx := cOpd_sound (E := E) hg h2 hf
    rw [hopd] at vx
    obtain ⟨w', g1, g2⟩ := store_sound r h1 vx (cOpd_sound hg h3 hf) q4 (by simpa using q2) q3
    refine ⟨.skip, w', Go.undef, ?_, .inr ⟨rfl, rfl⟩, g2⟩
    unfold execOp; rw [he]
    exact exec_u g1
  · split at hc <;> first | (simp at hc; done) | (cases hc; simp [AI.act] at hact; done)
  · -- binOp
    split at hc <;> first | (simp at hc; done) | skip
    unfold cBin at hc
    repeat (split at hc <;> first | (simp at hc; done) | (cases hc; simp [AI.act] at hact; done) | skip)
  · split at hc <;> first | (simp at hc; done) | (cases hc; simp [AI.act] at hact; done)
  · -- convert
    rename_i src dst x he
    split at hc <;> first | (simp at hc; done) | skip
    rename_i y hy
    unfold cConv at hc
    split at hc <;> first | (simp at hc; done) | (cases hc; simp [AI.act] at hact; done) | skip
    · split at hc <;> first | (simp at hc; done) | (cases hc; simp [AI.act] at hact; done)
    · split at hc <;> first | (simp at hc; done) | (cases hc; simp [AI.isNew] at hn; done)
    · rename_i t e hs hd
      split at hc <;> first | (simp at hc; done) | skip
      rename_i hcond
      cases hc
      simp only [AI.run] at hv
      split at hv <;> first | (simp at hv; done) | skip
      rename_i b off len cap ex s hopd
      split at hv <;> first | (simp at hv; done) | skip
      rename_i hro
      simp only [Option.some.injEq, Prod.mk.injEq] at hv
      obtain ⟨rfl, rfl⟩ := hv
      have vx := cOpd_sound (E := E) hg hy hf
      rw [hopd] at vx
      simp only [Bool.and_eq_true, beq_iff_eq] at hcond
      unfold execOp; rw [he]
      exact told_v (same_sound r hs hd hcond.1 hcond.2 vx hro)
    · split at hc <;> first | (simp at hc; done) | (cases hc; simp [AI.act] at hact; done)
    · split at hc <;> first | (simp at hc; done) | (cases hc; simp [AI.act] at hact; done)
  · split at hc <;> first | (simp at hc; done) | (cases hc; simp [AI.act] at hact; done)
  · split at hc <;> first | (simp at hc; done) | (cases hc; simp [AI.act] at hact; done)
  · repeat (split at hc <;> first | (simp at hc; done) | (cases hc; simp [AI.isNew] at hn; done) | skip)
  · -- slice
    split at hc <;> first | (simp at hc; done) | skip
    split at hc <;> first | (simp at hc; done) | skip
    unfold cSlice at hc
    repeat (split at hc <;> first | (simp at hc; done) | (cases hc; simp [AI.act] at hact; done) | skip)
  · split at hc <;> first | (simp at hc; done) | skip
    split at hc <;> first | (simp at hc; done) | (cases hc; simp [AI.act] at hact; done)
  · split at hc <;> first | (simp at hc; done) | skip
    split at hc <;> first | (simp at hc; done) | skip
    split at hc <;> first | (simp at hc; done) | (cases hc; simp [AI.act] at hact; done)
  · split at hc <;> first | (simp at hc; done) | skip
    unfold cIAddr at hc
    repeat (split at hc <;> first | (simp at hc; done) | (cases hc; simp [AI.act] at hact; done) | skip)
  · split at hc <;> first | (simp at hc; done) | skip
    unfold cIndex at hc
    repeat (split at hc <;> first | (simp at hc; done) | (cases hc; simp [AI.act] at hact; done) | skip)
  · split at hc <;> first | (simp at hc; done) | (cases hc; simp [AI.isNew] at hn; done)
  · repeat (split at hc <;> first | (simp at hc; done) | (cases hc; simp [AI.isNew] at hn; done) | skip)
  · -- lookup
    repeat (split at hc <;> first | (simp at hc; done) | (cases hc; simp [AI.act] at hact; done) | skip)
  · -- mapUpdate
    rename_i t x i v he
    split at hc <;> first | (simp at hc; done) | skip
    rename_i k e cx ci cv hu h1 h2 h3
    split at hc <;> first | (simp at hc; done) | skip
    rename_i hk
    cases hc
    unfold execOp; rw [he]
    obtain ⟨w', g1, g2⟩ := mapup_sound r hu hk (cOpd_sound hg h1 hf) (cOpd_sound hg h2 hf) (cOpd_sound hg h3 hf) hv
    exact ⟨_, w', _, exec_u' g1, .inr ⟨rfl, rfl⟩, g2⟩
  · -- next
    rename_i x he
    split at hc <;> first | (simp at hc; done) | skip
    rename_i y hy
    cases hc
    unfold execOp; rw [he]
    exact told_v (next_sound r (cOpd_sound hg hy hf) hv _)
  · split at hc <;> first | (simp at hc; done) | skip
    unfold cAssert at hc
    repeat (split at hc <;> first | (simp at hc; done) | (cases hc; simp [AI.act] at hact; done) | skip)
  · split at hc <;> first | (simp at hc; done) | (cases hc; simp [AI.act] at hact; done)
  · -- calls
    rename_i c he
    split at hc <;> first | (simp at hc; done) | skip
    rename_i xs hxs
    have hl := cOpds_sound (E := E) hg hxs hf
    have hlr : LR E m (opds xs tm) (c.args.map a.eval).toList := by simpa using hl
    have one : ∀ {x : Opd}, xs = [x] → ∃ y, c.args.map a.eval = #[y] ∧ VR E m (opd x tm) y := by
      rintro x rfl
      rw [opds_eq] at hlr
      obtain ⟨y, ys, e, h1, h2⟩ := LR.cons_inv (by simpa using hlr)
      have := h2.nil_inv
      subst this
      exact ⟨y, Array.toList_inj.1 (by simpa using e), h1⟩
    have two : ∀ {x x' : Opd}, xs = [x, x'] → ∃ y y', c.args.map a.eval = #[y, y'] ∧ VR E m (opd x tm) y ∧ VR E m (opd x' tm) y' := by
      rintro x x' rfl
      rw [opds_eq] at hlr
      obtain ⟨y, ys, e, h1, h2⟩ := LR.cons_inv (by simpa using hlr)
      obtain ⟨y', ys', e', h3, h4⟩ := LR.cons_inv h2
      have := h4.nil_inv
      subst this; subst e'
      exact ⟨y, y', Array.toList_inj.1 (by simpa using e), h1, h3⟩
    split at hc <;> first | (simp at hc; done) | skip
    · -- builtins
      rename_i bi hb
      have fin : ∀ {s : Sem Next}, (∀ cs, builtin bi c.argTypes o.type cs (c.args.map a.eval) = s) →
          (∃ n w' x, s.run P w = .ok n w' ∧ Told n x ∧ Post E m h w v h' x w') → ∃ n w' x, (execOp a.eval o).run P w = .ok n w' ∧ Told n x ∧ Post E m h w v h' x w' := by
        rintro s hs ⟨n, w', x, g1, g2⟩
        refine ⟨n, w', x, ?_, g2⟩
        unfold execOp; rw [he]
        simp only [resolve, hb]
        rw [bind_ok (run_pure _ w)]
        simp only [invoke]
        rw [hs]; exact g1
      unfold cBuiltin at hc
      split at hc <;> first | (simp at hc; done) | skip
      · repeat (split at hc <;> first | (simp at hc; done) | (cases hc; simp [AI.act] at hact; done) | skip)
      · repeat (split at hc <;> first | (simp at hc; done) | (cases hc; simp [AI.act] at hact; done) | skip)
      · cases hc; simp [AI.act] at hact
      · cases hc; simp [AI.act] at hact
      · cases hc; simp [AI.act] at hact
      · -- append
        rename_i t u x y hts
        split at hc <;> first | (simp at hc; done) | skip
        rename_i e hu
        split at hc <;> first | (simp at hc; done) | skip
        rename_i s bytes z h1 h2 h3
        split at hc <;> first | (simp at hc; done) | skip
        rename_i hzl
        have hzl : z.length = s + 1 := by simpa using hzl
        obtain ⟨X, Y, e1, vX, vY⟩ := two rfl
        have hts0 : c.argTypes[0]? = some t := by rw [← Array.getElem?_toList, hts]; rfl
        have hts1 : c.argTypes[1]? = some u := by rw [← Array.getElem?_toList, hts]; rfl
        split at hc <;> first | (simp at hc; done) | skip
        · rename_i k hd
          cases hc
          exact fin (fun _ => rfl) (told_v (by rw [e1]; exact append_sound r hu h1 h2 hd h3 hzl (.inl ⟨rfl, k, rfl⟩) hts0 hts1 vX vY hv _))
        · rename_i d hnd hd
          cases hc
          exact fin (fun _ => rfl) (told_v (by rw [e1]; exact append_sound r hu h1 h2 hd h3 hzl (.inr ⟨rfl, fun k hk => hnd k hk⟩) hts0 hts1 vX vY hv _))
      · -- copy
        rename_i t u x y hts
        split at hc <;> first | (simp at hc; done) | skip
        rename_i e hu
        split at hc <;> first | (simp at hc; done) | skip
        rename_i s h1
        cases hc
        obtain ⟨X, Y, e1, vX, vY⟩ := two rfl
        have hts0 : c.argTypes[0]? = some t := by rw [← Array.getElem?_toList, hts]; rfl
        exact fin (fun _ => rfl) (told_v (by rw [e1]; exact copy_sound r hu h1 vX vY hv hts0 _))
      · -- clear
        rename_i t x hts
        split at hc <;> first | (simp at hc; done) | skip
        rename_i e hu
        split at hc <;> first | (simp at hc; done) | skip
        rename_i z hz
        cases hc
        obtain ⟨X, e1, vX⟩ := one rfl
        have hts0 : c.argTypes[0]? = some t := by rw [← Array.getElem?_toList, hts]; rfl
        exact fin (fun _ => rfl) (told_v (by rw [e1]; exact clear_sound r hu hz vX hv hts0 _))
      · -- unsafe.String
        rename_i t u x y hts
        split at hc <;> first | (simp at hc; done) | skip
        rename_i e hu
        split at hc <;> first | (simp at hc; done) | skip
        rename_i hcell
        cases hc
        obtain ⟨X, Y, e1, vX, vY⟩ := two rfl
        have hts0 : c.argTypes[0]? = some t := by rw [← Array.getElem?_toList, hts]; rfl
        exact fin (fun _ => rfl) (told_v (by rw [e1]; exact ustr_sound r hu hcell vX vY hv hts0 _))
    · -- functions
      rename_i f hfv
      unfold cCall at hc
      split at hc
      · rename_i g
        split at hc <;> first | (simp at hc; done) | skip
        rename_i fn hfn
        split at hc
        · cases hc; simp [AI.isCall] at hcall
        rename_i hbody
        have fin : ∀ {x : Value} {w' : World}, (callFunc g (c.args.map a.eval)).run P w = .ok (.value x) w' → Post E m h w v h' x w' →
            ∃ n w' x, (execOp a.eval o).run P w = .ok n w' ∧ Told n x ∧ Post E m h w v h' x w' := by
          intro x w' h1 h2
          refine ⟨_, w', x, ?_, .inl rfl, h2⟩
          unfold execOp; rw [he]
          simp only [resolve, hfv, Act.eval]
          have : (Deferred.ofValue (.func (.func g) #[] #[]) (c.args.map a.eval)).run P w = .ok { target := .fn (.func g) #[], args := c.args.map a.eval } w := by
            simp [Deferred.ofValue]
          rw [bind_ok this]
          simp only [invoke]
          rw [show c.args.map a.eval ++ (#[] : Array Value) = c.args.map a.eval by simp]
          exact h1
        unfold cExtern at hc
        split at hc
        · simp at hc
        rename_i hor
        have hor : fn.origin = "" := by simpa using hor
        split at hc
        · -- IndexByteString
          rename_i hname
          have hname : fn.name = "internal/bytealg.IndexByteString" := by simpa using hname
          split at hc <;> first | (simp at hc; done) | skip
          rename_i x y
          cases hc
          obtain ⟨X, Y, e1, vX, vY⟩ := two rfl
          simp only [AI.run] at hv
          split at hv <;> first | (simp at hv; done) | skip
          rename_i s hs
          rw [hs] at vX
          unfold onByte at hv
          split at hv <;> first | (simp at hv; done) | skip
          rename_i q ch hch
          rw [hch] at vY
          split at hv <;> first | (simp at hv; done) | skip
          rename_i hlt
          have hlt : ch < 256 := by simpa using hlt
          simp only [Option.some.injEq, Prod.mk.injEq] at hv
          obtain ⟨rfl, rfl⟩ := hv
          cases vX; cases vY
          refine fin (extern_run hfn hbody (by rw [hname]; decide) (fn_IndexByteString hname hor) (by rw [e1]; exact Lib.run_indexByteString _ _ w)) (Post.of rfl (Same.refl w) r ?_)
          rw [indexByteL_eq ch hlt]
          have : (if Lib.indexByte s ch.toUInt8 = -1 then -1 else ((0 : Nat) : Int) + Lib.indexByte s ch.toUInt8) = Lib.indexByte s ch.toUInt8 := by
            split
            · rename_i q; exact q.symm
            · simp
          rw [this]
          exact .int _ _
        split at hc
        · -- CountString
          rename_i hname
          have hname : fn.name = "internal/bytealg.CountString" := by simpa using hname
          split at hc <;> first | (simp at hc; done) | skip
          rename_i x y
          cases hc
          obtain ⟨X, Y, e1, vX, vY⟩ := two rfl
          simp only [AI.run] at hv
          split at hv <;> first | (simp at hv; done) | skip
          rename_i s hs
          rw [hs] at vX
          unfold onByte at hv
          split at hv <;> first | (simp at hv; done) | skip
          rename_i q ch hch
          rw [hch] at vY
          split at hv <;> first | (simp at hv; done) | skip
          rename_i hlt
          have hlt : ch < 256 := by simpa using hlt
          simp only [Option.some.injEq, Prod.mk.injEq] at hv
          obtain ⟨rfl, rfl⟩ := hv
          cases vX; cases vY
          refine fin (extern_run hfn hbody (by rw [hname]; decide) (fn_CountString hname hor) (by rw [e1]; exact Lib.run_countString _ _ w)) (Post.of rfl (Same.refl w) r ?_)
          rw [countL_eq ch hlt]
          exact .int _ _
        split at hc
        · -- IndexString
          rename_i hname
          have hname : fn.name = "internal/bytealg.IndexString" := by simpa using hname
          split at hc <;> first | (simp at hc; done) | skip
          rename_i x y gl hgl
          cases hc
          obtain ⟨X, Y, e1, vX, vY⟩ := two rfl
          simp only [AI.run] at hv
          unfold axindex at hv
          split at hv <;> first | (simp at hv; done) | skip
          rename_i s p mx rest hs hp hml
          split at hv <;> first | (simp at hv; done) | skip
          rename_i q1 q2 q3
          simp only [Option.some.injEq, Prod.mk.injEq] at hv
          obtain ⟨rfl, rfl⟩ := hv
          rw [hs] at vX; rw [hp] at vY
          cases vX; cases vY
          have q1 : 2 ≤ p.length := by simpa using q1
          have q2 : (p.length : Int) ≤ mx := by simpa using q2
          have q3 : s.length < 4294967281 := by simpa using q3
          obtain ⟨cb, vs, k1, k2, k3, k4, k5⟩ := r.at hml
          obtain ⟨y0, ys, rfl, k6, k7⟩ := k2.cons_inv
          cases k6
          have hgs : gl < P.globals.size := (Array.findIdx?_eq_some_iff_findIdx_eq.1 hgl).1
          obtain ⟨cb', k8, k9⟩ := hg gl hgs
          rw [k1] at k8; cases k8
          have hcell := At.cell (w := w) k5 (i := 0) (v := .int .i64 mx) rfl
          rw [k9] at hcell
          refine fin (extern_run hfn hbody (by rw [hname]; decide) (fn_IndexString hname hor) (by rw [e1]; exact Lib.run_indexString ⟨⟨s⟩⟩ ⟨⟨p⟩⟩ w gl mx hgl hcell q1 q2 q3)) (Post.of rfl (Same.refl w) r ?_)
          rw [indexStrL_eq p (by rintro rfl; simp at q1)]
          have : (if Lib.index s p = -1 then -1 else ((0 : Nat) : Int) + Lib.index s p) = Lib.index s p := by
            split
            · rename_i q; exact q.symm
            · simp
          rw [this]
          exact .int _ _
        split at hc
        · -- NoEscape
          rename_i hname
          have hname : fn.name = "internal/abi.NoEscape" := by simpa using hname
          split at hc <;> first | (simp at hc; done) | skip
          rename_i x
          cases hc
          obtain ⟨X, e1, vX⟩ := one rfl
          simp only [AI.run, Option.some.injEq, Prod.mk.injEq] at hv
          obtain ⟨rfl, rfl⟩ := hv
          exact fin (extern_run hfn hbody (by rw [hname]; decide) (fn_NoEscape hname hor) (by rw [e1]; rfl)) (Post.of rfl (Same.refl w) r vX)
        split at hc
        · -- MakeNoZero
          rename_i hname
          have hname : fn.name = "internal/bytealg.MakeNoZero" := by simpa using hname
          split at hc <;> first | (simp at hc; done) | skip
          rename_i x t ht
          split at hc <;> first | (simp at hc; done) | skip
          rename_i e hu
          split at hc <;> first | (simp at hc; done) | skip
          rename_i hs1
          cases hc
          obtain ⟨X, e1, vX⟩ := one rfl
          simp only [AI.run] at hv
          split at hv <;> first | (simp at hv; done) | skip
          rename_i n hopd
          split at hv <;> first | (simp at hv; done) | skip
          rename_i hle
          simp only [Option.some.injEq, Prod.mk.injEq] at hv
          obtain ⟨rfl, rfl⟩ := hv
          rw [hopd] at vX
          cases vX
          obtain ⟨x, w', g1, g2⟩ := xzero_sound (P := P) r (ps := fn.params) (rs := fn.resultTypes) (n := n) ht hu (by simpa using hle)
          exact fin (extern_run hfn hbody (by rw [hname]; decide) (fn_MakeNoZero hname hor) (by rw [e1]; exact g1)) g2
        · simp at hc
      · split at hc <;> first | (simp at hc; done) | (cases hc; simp [AI.isCall] at hcall; done)
end
end Go.Ab
