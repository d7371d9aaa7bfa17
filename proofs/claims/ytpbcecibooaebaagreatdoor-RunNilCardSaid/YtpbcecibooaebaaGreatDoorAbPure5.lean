/-
  The instructions that leave the heap as it is: all of them in one statement.
-/
import Derived.Test.YtpbcecibooaebaaGreatDoorAbMapL
namespace Go.Ab
open Go

section
variable {E : Cx} {m : Mp} {P : Program}

theorem lift_v {s : Sem Value} {v : AV} {w : World} (h : ∃ y, s.run P w = .ok y w ∧ VR E m v y) :
    ∃ y, (do pure (.value (← s)) : Sem Next).run P w = .ok (.value y) w ∧ VR E m v y := by
  obtain ⟨y, h1, h2⟩ := h
  exact ⟨y, exec_v h1, h2⟩

theorem bin_sound (hg : Globs P m) {op : BinOp} {t : TypeId} {x y : Operand} {cx cy : Opd} (hx : cOpd P x = some cx) (hy : cOpd P y = some cy) {I : AI} (hc : cBin P op t cx cy = some I)
    {tm : FT} {a : Act} (hf : FR E m tm a.tmps) {h : AH} {v : AV} (hv : I.pure.f tm h = some v) (w : World) :
    ∃ z, (do eqGuard op t x y (a.eval x) (a.eval y); binOp op t (a.eval x) (a.eval y) : Sem Value).run P w = .ok z w ∧ VR E m v z := by
  have vx := cOpd_sound (E := E) hg hx hf
  have vy := cOpd_sound (E := E) hg hy hf
  generalize a.eval x = X at vx
  generalize a.eval y = Y at vy
  unfold cBin at hc
  split at hc
  · cases hc
    simp only [AI.pure, binV, onInt] at hv
    split at hv <;> first | (simp at hv; done) | skip
    · rename_i k i hopd
      split at hv <;> first | (simp at hv; done) | skip
      rename_i k' j hopd'
      rw [hopd] at vx; rw [hopd'] at vy
      cases vx; cases vy
      rw [bind_ok (eqGuard_other w (by simp) (by simp))]
      exact run_binOp_int hv w
    · rename_i k q r hopd
      unfold resBin at hv
      split at hv <;> first | (simp at hv; done) | skip
      split at hv <;> first | (simp at hv; done) | skip
      split at hv <;> first | (simp at hv; done) | skip
      rename_i c hopd'
      split at hv <;> first | (simp at hv; done) | skip
      rename_i h1 h2
      cases hv
      rw [hopd] at vx; rw [hopd'] at vy
      cases vy
      cases vx with
      | res h hu =>
      rename_i x
      obtain ⟨hu1, hu2⟩ := hu rfl
      have h1 : c = q := by simpa using h1
      have h2 : 0 < q := by simpa using h2
      subst h1
      rw [bind_ok (eqGuard_other w (by simp) (by simp))]
      refine run_binOp_int (a := x) (b := Int.ofNat c) ?_ w
      have e : x.tmod (Int.ofNat c) = Int.ofNat r := by
        rw [Int.tmod_eq_emod_of_nonneg hu1]
        rw [Int.emod_eq_of_lt hu1 hu2] at h
        exact h
      have e0 : eqI (Int.ofNat c) 0 = false := by
        rw [eqI_eq]
        simp only [beq_eq_false_iff_ne]
        exact fun z => by
          have : (c : Int) = 0 := z
          omega
      simp only [intBin, ifK, remI, e0, e]
      rfl
  · cases hc
    simp only [AI.pure, onStr] at hv
    split at hv <;> first | (simp at hv; done) | skip
    rename_i s hopd
    split at hv <;> first | (simp at hv; done) | skip
    rename_i s' hopd'
    rw [hopd] at vx; rw [hopd'] at vy
    cases vx; cases vy
    rw [bind_ok (eqGuard_other w (by simp) (by simp))]
    exact run_binOp_str hv w
  · split at hc <;> first | (simp at hc; done) | skip
    · rename_i k hk
      cases hc
      simp only [AI.pure] at hv
      split at hv <;> first | (simp at hv; done) | skip
      rename_i b hb
      cases hv
      obtain ⟨g1, g2, g3, g4, g5, g6⟩ := aeq_sound hk hb vx vy .eql x y w
      rw [bind_ok g1]
      refine ⟨.bool b, ?_, .bool _⟩
      have e : binOp .eql t X Y = (do pure (.bool (← Op.equal t X Y))) := by
        cases X <;> first | rfl | exact absurd rfl (g3 _ _) | exact absurd rfl (g4 _) | exact absurd rfl (g5 _ _) | exact absurd rfl (g6 _ _ _) | (cases Y <;> rfl)
      rw [e, bind_ok g2]; rfl
    · rename_i k hk
      cases hc
      simp only [AI.pure] at hv
      split at hv <;> first | (simp at hv; done) | skip
      rename_i b hb
      cases hv
      obtain ⟨g1, g2, g3, g4, g5, g6⟩ := aeq_sound hk hb vx vy .neq x y w
      rw [bind_ok g1]
      refine ⟨.bool (!b), ?_, .bool _⟩
      have e : binOp .neq t X Y = (do pure (.bool (!(← Op.equal t X Y)))) := by
        cases X <;> first | rfl | exact absurd rfl (g3 _ _) | exact absurd rfl (g4 _) | exact absurd rfl (g5 _ _) | exact absurd rfl (g6 _ _ _) | (cases Y <;> rfl)
      rw [e, bind_ok g2]; rfl

set_option maxHeartbeats 1000000 in
theorem pure_sound (hg : Globs P m) {o : Oper} {i : AI} (hc : cOp P o.op = some i) (hact : i.act = false) {h : AH} {w : World} (r : Rel E m h w.heap)
    {tm : FT} {a : Act} (hf : FR E m tm a.tmps) {v : AV} (hv : i.pure.f tm h = some v) : ∃ x, (execOp a.eval o).run P w = .ok (.value x) w ∧ VR E m v x := by
  have hc' := hc
  unfold cOp at hc
  split at hc
  · -- move
    rename_i x he
    split at hc <;> first | (simp at hc; done) | skip
    rename_i y hy
    cases hc; cases hv
    exact ⟨_, by unfold execOp; rw [he]; rfl, cOpd_sound hg hy hf⟩
  · -- assign
    rename_i x he
    split at hc <;> first | (simp at hc; done) | skip
    rename_i y hy
    cases hc; cases hv
    exact ⟨_, by unfold execOp; rw [he]; rfl, cOpd_sound hg hy hf⟩
  · -- pick
    rename_i c x y he
    split at hc <;> first | (simp at hc; done) | skip
    rename_i c' x' y' h1 h2 h3
    cases hc
    simp only [AI.pure] at hv
    have vc := cOpd_sound (E := E) hg h1 hf
    split at hv <;> first | (simp at hv; done) | skip
    · rename_i hopd
      rw [hopd] at vc
      cases hv
      generalize hz : a.eval c = z at vc
      cases vc
      exact ⟨_, by unfold execOp; rw [he]; simp only [hz]; rfl, cOpd_sound hg h2 hf⟩
    · rename_i hopd
      rw [hopd] at vc
      cases hv
      generalize hz : a.eval c = z at vc
      cases vc
      exact ⟨_, by unfold execOp; rw [he]; simp only [hz]; rfl, cOpd_sound hg h3 hf⟩
  · -- alloc
    split at hc <;> first | (simp at hc; done) | (cases hc; simp [AI.act] at hact; done)
  · -- box
    split at hc <;> first | (simp at hc; done) | (cases hc; simp [AI.act] at hact; done)
  · -- build
    rename_i t ps he
    rw [he] at hc'
    obtain ⟨y, h1, h2⟩ := build_sound hg hc' hf hv w
    exact ⟨y, by unfold execOp; rw [he]; exact exec_v h1, h2⟩
  · -- buildSlice
    split at hc <;> first | (simp at hc; done) | skip
    split at hc <;> first | (simp at hc; done) | skip
    split at hc <;> first | (simp at hc; done) | skip
    split at hc <;> first | (simp at hc; done) | (cases hc; simp [AI.act] at hact; done)
  · -- load
    rename_i t x he
    split at hc <;> first | (simp at hc; done) | skip
    rename_i n agg y h1 h2
    cases hc
    obtain ⟨y, g1, g2⟩ := aload_sound r h1 hv (cOpd_sound hg h2 hf)
    exact ⟨y, by unfold execOp; rw [he]; exact exec_v g1, g2⟩
  · -- store
    split at hc <;> first | (simp at hc; done) | (cases hc; simp [AI.act] at hact; done)
  · -- nilCheck
    rename_i x he
    split at hc <;> first | (simp at hc; done) | skip
    rename_i y hy
    cases hc
    have vx := cOpd_sound (E := E) hg hy hf
    simp only [AI.pure, anilck] at hv
    generalize hz : a.eval x = z at vx
    split at hv <;> first | (simp at hv; done) | skip
    all_goals
      rename_i hopd
      rw [hopd] at vx
      cases hv
      refine ⟨z, ?_, vx⟩
      cases vx
      all_goals
        unfold execOp; rw [he]; simp only [hz]; rfl
  · -- binOp
    rename_i op t x y yt he
    split at hc <;> first | (simp at hc; done) | skip
    rename_i cx cy h1 h2
    obtain ⟨z, g1, g2⟩ := bin_sound hg h1 h2 hc hf hv w
    exact ⟨z, by unfold execOp; rw [he]; exact exec_v g1, g2⟩
  · -- unOp
    rename_i op t x he
    split at hc <;> first | (simp at hc; done) | skip
    · rename_i y hy
      cases hc
      have vx := cOpd_sound (E := E) hg hy hf
      simp only [AI.pure, onInt] at hv
      split at hv <;> first | (simp at hv; done) | skip
      rename_i k n hopd
      rw [hopd] at vx
      generalize hz : a.eval x = z at vx
      cases vx; cases hv
      refine ⟨_, ?_, by rw [wrapF_eq]; exact .int _ _⟩
      unfold execOp; rw [he]; simp only [hz]; rfl
    · rename_i y hy
      cases hc
      have vx := cOpd_sound (E := E) hg hy hf
      simp only [AI.pure, onInt] at hv
      split at hv <;> first | (simp at hv; done) | skip
      rename_i k n hopd
      rw [hopd] at vx
      generalize hz : a.eval x = z at vx
      cases vx; cases hv
      refine ⟨.int k (k.wrap ((BitVec.ofInt k.bits (if k.signed then -1 else k.max) ^^^ BitVec.ofInt k.bits n).toNat : Nat)), ?_, ?_⟩
      · unfold execOp; rw [he]; simp only [hz]; rfl
      · rw [wrapF_eq, com_eq, BitVec.allOnes_xor, BitVec.toNat_not, toNat_ofInt_eq, ← modOf_nat]
        exact .int _ _
    · rename_i y hy
      cases hc
      have vx := cOpd_sound (E := E) hg hy hf
      simp only [AI.pure] at hv
      split at hv <;> first | (simp at hv; done) | skip
      rename_i b hopd
      rw [hopd] at vx
      generalize hz : a.eval x = z at vx
      cases vx; cases hv
      refine ⟨_, ?_, .bool _⟩
      unfold execOp; rw [he]; simp only [hz]; rfl
  · -- convert
    rename_i src dst x he
    split at hc <;> first | (simp at hc; done) | skip
    rename_i y hy
    obtain ⟨z, g1, g2⟩ := conv_sound r hc hact hv (cOpd_sound hg hy hf)
    exact ⟨z, by unfold execOp; rw [he]; exact exec_v g1, g2⟩
  · -- makeInterface
    rename_i t x he
    split at hc <;> first | (simp at hc; done) | skip
    rename_i d y hni hu hy
    cases hc; cases hv
    refine ⟨.iface t (a.eval x), ?_, .iface (cOpd_sound hg hy hf)⟩
    unfold execOp; rw [he]
    refine exec_v ?_
    unfold Instr.makeInterface
    rw [bind_ok (run_underlying hu w)]
    cases d <;> first | rfl | (exfalso; simp_all; done)
  · -- makeFunc
    rename_i f x y he
    split at hc <;> first | (simp at hc; done) | skip
    rename_i x' y' h1 h2
    cases hc; cases hv
    have l1 := cOpds_sound (E := E) hg h1 hf
    have l2 := cOpds_sound (E := E) hg h2 hf
    refine ⟨.func (.func f) (x.map a.eval) (y.map a.eval), ?_, ?_⟩
    · unfold execOp; rw [he]; rfl
    · exact .fn (by simpa using l1.1) (fun i c z h3 h4 => l1.2 i c z h3 (by rw [← Array.getElem?_toList] at h4; simpa using h4)) (by simpa using l2.1)
        (fun i c z h3 h4 => l2.2 i c z h3 (by rw [← Array.getElem?_toList] at h4; simpa using h4))
  · -- makeSlice
    split at hc <;> first | (simp at hc; done) | skip
    split at hc <;> first | (simp at hc; done) | skip
    split at hc <;> first | (simp at hc; done) | (cases hc; simp [AI.act] at hact; done)
  · -- slice
    rename_i t x lo hi mx he
    split at hc <;> first | (simp at hc; done) | skip
    rename_i x' lo' hi' mx' h1 h2 h3 h4
    split at hc <;> first | (simp at hc; done) | skip
    rename_i h5
    obtain ⟨z, g1, g2⟩ := slice_sound hg r h2 h3 h4 (by cases mx' <;> cases hi' <;> first | (exact absurd rfl h5) | simp) hc hf hv (cOpd_sound hg h1 hf)
    exact ⟨z, by unfold execOp; rw [he]; exact exec_v g1, g2⟩
  · -- fieldAddr
    rename_i s x k he
    split at hc <;> first | (simp at hc; done) | skip
    rename_i fs y hu hy
    split at hc <;> first | (simp at hc; done) | skip
    rename_i off n hn
    cases hc
    have vx := cOpd_sound (E := E) hg hy hf
    simp only [AI.pure] at hv
    split at hv <;> first | (simp at hv; done) | skip
    rename_i b q hopd
    rw [hopd] at vx
    generalize hz : a.eval x = z at vx
    cases hv
    unfold fieldAt at hn
    split at hn <;> first | (simp at hn; done) | skip
    rename_i f hk
    split at hn <;> first | (simp at hn; done) | skip
    rename_i n' hs
    cases hn
    cases vx with
    | ptr hm =>
      rename_i cb
      refine ⟨.pointer (some ⟨cb.blk, q + f.offset, none⟩), ?_, .ptr hm⟩
      unfold execOp; rw [he]
      refine exec_v ?_
      unfold Instr.fieldAt
      rw [bind_ok (run_underlying hu w)]
      simp only [hk, hz, Instr.sureAddr]
      rw [bind_ok (run_pure _ w)]
      have hp : (fieldPlace ⟨cb.blk, q, none⟩ f).run P w = .ok ⟨cb.blk, q + f.offset, none⟩ w := by
        unfold fieldPlace
        rw [bind_ok (run_sizeOf hs w)]
        simp only [addr_add]
        rfl
      rw [bind_ok hp]; rfl
  · -- field
    rename_i t x k he
    split at hc <;> first | (simp at hc; done) | skip
    rename_i fs y hu hy
    split at hc <;> first | (simp at hc; done) | skip
    rename_i f hk
    split at hc <;> first | (simp at hc; done) | skip
    rename_i n agg hw
    cases hc
    have vx := cOpd_sound (E := E) hg hy hf
    simp only [AI.pure] at hv
    split at hv <;> first | (simp at hv; done) | skip
    rename_i cs hopd
    rw [hopd] at vx
    generalize hz : a.eval x = z at vx
    have vx' := vx
    cases vx with
    | agg ha hla hra =>
      obtain ⟨z, g1, g2⟩ := apart_sound hw hv vx' w
      refine ⟨z, ?_, g2⟩
      unfold execOp; rw [he]
      refine exec_v ?_
      unfold Instr.field
      rw [bind_ok (run_underlying hu w)]
      simp only [hk, hz, asAgg]
      exact g1
  · -- indexAddr
    rename_i t x i he
    split at hc <;> first | (simp at hc; done) | skip
    rename_i cx ci h1 h2
    obtain ⟨z, g1, g2⟩ := iaddr_sound hc hv (cOpd_sound hg h1 hf) (cOpd_sound hg h2 hf) w
    exact ⟨z, by unfold execOp; rw [he]; exact exec_v g1, g2⟩
  · -- index
    rename_i t x i he
    split at hc <;> first | (simp at hc; done) | skip
    rename_i cx ci h1 h2
    obtain ⟨z, g1, g2⟩ := index_sound hc hv (cOpd_sound hg h1 hf) (cOpd_sound hg h2 hf) w
    exact ⟨z, by unfold execOp; rw [he]; exact exec_v g1, g2⟩
  · -- range
    split at hc <;> first | (simp at hc; done) | (cases hc; simp [AI.act] at hact; done)
  · -- makeMap
    repeat (split at hc <;> first | (simp at hc; done) | (cases hc; simp [AI.act] at hact; done) | skip)
  · -- lookup
    rename_i t x i ok he
    split at hc <;> first | (simp at hc; done) | skip
    rename_i k e cx ci hu h1 h2
    split at hc <;> first | (simp at hc; done) | skip
    rename_i z hk hz _
    cases hc
    simp only [AI.pure] at hv
    obtain ⟨q, zv, k1, k2, k3⟩ := zeroVal_sound hz
    have hzr := (ofV_sound (E := E) (m := m) k3)
    obtain ⟨y, g1, g2⟩ := lookup_sound r hu hk (run_zeroValue k1 k2 w) hzr (cOpd_sound hg h1 hf) (cOpd_sound hg h2 hf) hv
    exact ⟨y, by unfold execOp; rw [he]; exact exec_v g1, g2⟩
  · -- mapUpdate
    repeat (split at hc <;> first | (simp at hc; done) | (cases hc; simp [AI.act] at hact; done) | skip)
  · -- next
    split at hc <;> first | (simp at hc; done) | (cases hc; simp [AI.act] at hact; done)
  · -- typeAssert
    rename_i x xT t ok he
    split at hc <;> first | (simp at hc; done) | skip
    rename_i y hy
    obtain ⟨z, g1, g2⟩ := assert_sound hc hv (cOpd_sound hg hy hf) xT w
    exact ⟨z, by unfold execOp; rw [he]; exact exec_v g1, g2⟩
  · -- extract
    rename_i x k he
    split at hc <;> first | (simp at hc; done) | skip
    rename_i y hy
    cases hc
    have vx := cOpd_sound (E := E) hg hy hf
    simp only [AI.pure] at hv
    split at hv <;> first | (simp at hv; done) | skip
    rename_i vs hopd
    rw [nth?_eq] at hv
    rw [hopd] at vx
    generalize hz : a.eval x = z at vx
    cases vx with
    | tup ha h2 =>
      rename_i ys
      have hlt : k < ys.size := by
        rw [← ha]
        rcases Nat.lt_or_ge k vs.length with q | q
        · exact q
        · rw [List.getElem?_eq_none q] at hv; simp at hv
      have hy : ys[k]? = some ys[k] := by simp [hlt]
      refine ⟨ys[k], ?_, h2 k v _ hv hy⟩
      unfold execOp; rw [he]
      refine exec_v ?_
      simp only [hz, Instr.extract, hy]; rfl
  · -- calls
    rename_i c he
    split at hc <;> first | (simp at hc; done) | skip
    rename_i xs hxs
    split at hc
    · rename_i b hb
      have l := cOpds_sound (E := E) hg hxs hf
      obtain ⟨z, g1, g2⟩ := builtin_sound (X := c.args.map a.eval) hc hact hv (by simpa using l) o.type (c.args.map fun | .const _ => true | _ => false) w
      refine ⟨z, ?_, g2⟩
      unfold execOp; rw [he]
      simp only [resolve, hb]
      rw [bind_ok (run_pure _ w)]
      simp only [invoke]
      exact g1
    · rename_i f hf'
      exfalso
      unfold cCall at hc
      split at hc
      · split at hc <;> first | (simp at hc; done) | skip
        split at hc
        · cases hc; simp [AI.act] at hact
        · unfold cExtern at hc
          repeat (split at hc <;> first | (simp at hc; done) | (cases hc; simp [AI.act] at hact; done) | skip)
      · split at hc <;> first | (simp at hc; done) | (cases hc; simp [AI.act] at hact; done)
    · simp at hc
  · simp at hc
end
end Go.Ab
