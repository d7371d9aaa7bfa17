/-
  The abstract machine's instructions that change the heap: each does what the model's operation does.
-/
import Derived.Test.YtpbcecibooaebaaGreatDoorAbMap
namespace Go.Ab
open Go

section
variable {E : Cx} {m : Mp} {P : Program}

/-- what an operation has told, as a value -/
def Told (n : Next) (x : Value) : Prop := n = .value x ∨ (n = .skip ∧ x = Go.undef)

theorem told_v {fl : Option Nat} {s : Sem Value} {h h' : AH} {w : World} {v : AV} (hs : ∃ x w', s.run P w = .ok x w' ∧ PostX fl E m h w v h' x w') :
    ∃ n w' x, (do pure (.value (← s)) : Sem Next).run P w = .ok n w' ∧ Told n x ∧ PostX fl E m h w v h' x w' := by
  obtain ⟨x, w', h1, h2⟩ := hs
  exact ⟨_, w', x, exec_v h1, .inl rfl, h2⟩

theorem isU8_some {e : TypeId} (h : isU8 P e = true) : P.underlying e = some (.int .u8) := by
  unfold isU8 at h
  split at h
  · assumption
  · simp at h

theorem newBlk_sound (hg : Globs P m) {o : Oper} {i : AI} (hc : cOp P o.op = some i) (hn : i.isNew = true) {h h' : AH} {w : World} (r : Rel E m h w.heap) {tm : FT} {a : Act}
    (hf : FR E m tm a.tmps) {b : Nat} {v : AV} {X : Blk} (hv : i.newBlk.f b tm = some (v, X)) (na : NewAt m h b X h') :
    ∃ n w' x, (execOp a.eval o).run P w = .ok n w' ∧ Told n x ∧ PostX (some b) E m h w v h' x w' := by
  unfold cOp at hc
  split at hc <;> first | (simp at hc; done) | skip
  · split at hc <;> first | (simp at hc; done) | (cases hc; simp [AI.isNew] at hn; done)
  · split at hc <;> first | (simp at hc; done) | (cases hc; simp [AI.isNew] at hn; done)
  · split at hc <;> first | (simp at hc; done) | (cases hc; simp [AI.isNew] at hn; done)
  · -- alloc
    rename_i e he
    split at hc <;> first | (simp at hc; done) | skip
    rename_i z hz
    cases hc
    simp only [AI.newBlk, Option.some.injEq, Prod.mk.injEq] at hv
    obtain ⟨rfl, rfl⟩ := hv
    unfold execOp; rw [he]
    exact told_v (alloc_sound r na hz)
  · -- box
    rename_i e x he
    split at hc <;> first | (simp at hc; done) | skip
    rename_i y hy
    cases hc
    simp only [AI.newBlk] at hv
    split at hv <;> first | (simp at hv; done) | skip
    rename_i hh
    simp only [Option.some.injEq, Prod.mk.injEq] at hv
    obtain ⟨rfl, rfl⟩ := hv
    unfold execOp; rw [he]
    exact told_v (box_sound r na (cOpd_sound hg hy hf) hh)
  · split at hc <;> first | (simp at hc; done) | skip
    · split at hc <;> first | (simp at hc; done) | skip
      split at hc <;> first | (simp at hc; done) | (cases hc; simp [AI.isNew] at hn; done)
    · split at hc <;> first | (simp at hc; done) | skip
      split at hc <;> first | (simp at hc; done) | (cases hc; simp [AI.isNew] at hn; done)
  · -- buildSlice
    rename_i t len ps he
    unfold execOp; rw [he]
    exact told_v (bslice_sound hg r (t := t) (len := len) (ps := ps) hc hf hv na)
  · split at hc <;> first | (simp at hc; done) | (cases hc; simp [AI.isNew] at hn; done)
  · split at hc <;> first | (simp at hc; done) | (cases hc; simp [AI.isNew] at hn; done)
  · split at hc <;> first | (simp at hc; done) | (cases hc; simp [AI.isNew] at hn; done)
  · -- binOp
    split at hc <;> first | (simp at hc; done) | skip
    unfold cBin at hc
    repeat (split at hc <;> first | (simp at hc; done) | (cases hc; simp [AI.isNew] at hn; done) | skip)
  · split at hc <;> first | (simp at hc; done) | (cases hc; simp [AI.isNew] at hn; done)
  · -- convert
    rename_i src dst x he
    split at hc <;> first | (simp at hc; done) | skip
    rename_i y hy
    unfold cConv at hc
    split at hc <;> first | (simp at hc; done) | (cases hc; simp [AI.isNew] at hn; done) | skip
    · split at hc <;> first | (simp at hc; done) | (cases hc; simp [AI.isNew] at hn; done)
    · rename_i e hs hd
      split at hc <;> first | (simp at hc; done) | skip
      rename_i hu8
      cases hc
      simp only [AI.newBlk] at hv
      split at hv <;> first | (simp at hv; done) | skip
      rename_i s hopd
      simp only [Option.some.injEq, Prod.mk.injEq] at hv
      obtain ⟨rfl, rfl⟩ := hv
      have vx := cOpd_sound (E := E) hg hy hf
      rw [hopd] at vx
      generalize hz : a.eval x = z at vx
      cases vx
      unfold execOp; rw [he]
      refine told_v ?_
      rw [hz]
      obtain ⟨q, w', g1, g2⟩ := bytesOf_sound (P := P) r na
      refine ⟨q, w', ?_, by rw [lenL_eq]; exact g2⟩
      unfold convert
      rw [bind_ok (run_underlying hs w), bind_ok (run_underlying hd w)]
      refine Eq.trans (bind_ok (run_underlying (isU8_some hu8) w)) ?_
      exact g1
    · split at hc <;> first | (simp at hc; done) | (cases hc; simp [AI.isNew] at hn; done)
    · split at hc <;> first | (simp at hc; done) | (cases hc; simp [AI.isNew] at hn; done)
    · split at hc <;> first | (simp at hc; done) | (cases hc; simp [AI.isNew] at hn; done)
  · split at hc <;> first | (simp at hc; done) | (cases hc; simp [AI.isNew] at hn; done)
  · split at hc <;> first | (simp at hc; done) | (cases hc; simp [AI.isNew] at hn; done)
  · -- makeSlice
    rename_i t l c he
    split at hc <;> first | (simp at hc; done) | skip
    rename_i e hu
    split at hc <;> first | (simp at hc; done) | skip
    rename_i s bytes z cl cc h1 h2 h3 h4 h5
    split at hc <;> first | (simp at hc; done) | skip
    rename_i hl
    cases hc
    unfold execOp; rw [he]
    exact told_v (mkslice_sound r hu h1 h2 h3 hl (cOpd_sound hg h4 hf) (cOpd_sound hg h5 hf) hv na)
  · -- slice
    split at hc <;> first | (simp at hc; done) | skip
    split at hc <;> first | (simp at hc; done) | skip
    unfold cSlice at hc
    repeat (split at hc <;> first | (simp at hc; done) | (cases hc; simp [AI.isNew] at hn; done) | skip)
  · split at hc <;> first | (simp at hc; done) | skip
    split at hc <;> first | (simp at hc; done) | (cases hc; simp [AI.isNew] at hn; done)
  · split at hc <;> first | (simp at hc; done) | skip
    split at hc <;> first | (simp at hc; done) | skip
    split at hc <;> first | (simp at hc; done) | (cases hc; simp [AI.isNew] at hn; done)
  · split at hc <;> first | (simp at hc; done) | skip
    unfold cIAddr at hc
    repeat (split at hc <;> first | (simp at hc; done) | (cases hc; simp [AI.isNew] at hn; done) | skip)
  · split at hc <;> first | (simp at hc; done) | skip
    unfold cIndex at hc
    repeat (split at hc <;> first | (simp at hc; done) | (cases hc; simp [AI.isNew] at hn; done) | skip)
  · -- range
    rename_i t x he
    split at hc <;> first | (simp at hc; done) | skip
    rename_i y hu hy
    cases hc
    simp only [AI.newBlk] at hv
    split at hv <;> first | (simp at hv; done) | skip
    rename_i s hopd
    simp only [Option.some.injEq, Prod.mk.injEq] at hv
    obtain ⟨rfl, rfl⟩ := hv
    have vx := cOpd_sound (E := E) hg hy hf
    rw [hopd] at vx
    generalize hz : a.eval x = z at vx
    cases vx
    unfold execOp; rw [he]
    refine told_v ?_
    rw [hz]
    exact range_sound r hu na
  · -- makeMap
    rename_i t he
    split at hc <;> first | (simp at hc; done) | skip
    split at hc <;> first | (simp at hc; done) | skip
    cases hc
    simp only [AI.newBlk, Option.some.injEq, Prod.mk.injEq] at hv
    obtain ⟨rfl, rfl⟩ := hv
    unfold execOp; rw [he]
    exact told_v (mkmap_sound r t na)
  · repeat (split at hc <;> first | (simp at hc; done) | (cases hc; simp [AI.isNew] at hn; done) | skip)
  · repeat (split at hc <;> first | (simp at hc; done) | (cases hc; simp [AI.isNew] at hn; done) | skip)
  · split at hc <;> first | (simp at hc; done) | (cases hc; simp [AI.isNew] at hn; done)
  · split at hc <;> first | (simp at hc; done) | skip
    unfold cAssert at hc
    repeat (split at hc <;> first | (simp at hc; done) | (cases hc; simp [AI.isNew] at hn; done) | skip)
  · split at hc <;> first | (simp at hc; done) | (cases hc; simp [AI.isNew] at hn; done)
  · -- calls
    split at hc <;> first | (simp at hc; done) | skip
    split at hc <;> first | (simp at hc; done) | skip
    · unfold cBuiltin at hc
      repeat (split at hc <;> first | (simp at hc; done) | (cases hc; simp [AI.isNew] at hn; done) | skip)
    · unfold cCall at hc
      repeat (split at hc <;> first | (simp at hc; done) | (cases hc; simp [AI.isNew] at hn; done) | skip)
      unfold cExtern at hc
      repeat (split at hc <;> first | (simp at hc; done) | (cases hc; simp [AI.isNew] at hn; done) | skip)
end
end Go.Ab
