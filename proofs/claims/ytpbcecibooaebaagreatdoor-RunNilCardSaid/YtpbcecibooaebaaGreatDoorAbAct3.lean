/-
  The abstract machine's copies and appends.
-/
import Derived.Test.YtpbcecibooaebaaGreatDoorAbAct2
namespace Go.Ab
open Go

section
variable {E : Cx} {m : Mp} {P : Program}

theorem Rel.writeRows {h : AH} {w : World} (r : Rel E m h w.heap) {b o s e : Nat} {rs ws rs' : List (List AV)} (hb : h.get b = some (.rows s rs e false)) (ho : o % s = 0)
    (hw : ∀ q ∈ ws, q.length = s) (hs : spliceL ws (o / s) rs = some rs') {xs : List Value} (hv : LR E m ws.flatten xs) (hl : ∀ x ∈ xs, leafV x = true) :
    ∃ cb ob, m b = some cb ∧ (storeCells ⟨cb.blk, o, none⟩ xs).run P w = .ok () { w with heap := w.heap.setIfInBounds cb.blk ob } ∧
      Rel E m (h.put b (.rows s rs' e false)) (w.heap.setIfInBounds cb.blk ob) ∧ Fr m h w.heap m (h.put b (.rows s rs' e false)) (w.heap.setIfInBounds cb.blk ob) := by
  obtain ⟨cb, h1, hs0, hr, h2⟩ := r.dom b _ hb
  obtain ⟨a1, a2, a3⟩ := flatten_splice hr hw hs
  rw [Nat.div_mul_cancel (Nat.dvd_of_mod_eq_zero ho)] at a2 a3
  obtain ⟨ob, g2, g3⟩ := CellsR.write (P := P) h2 a2 hv hl
  rw [← a3] at g3
  obtain ⟨g4, g5⟩ := r.put hb rfl h1 (y := .rows s rs' e false) ⟨hs0, a1, g3⟩
  exact ⟨cb, ob, h1, g2, g4, g5⟩

theorem minN_eq (a b : Nat) : minN a b = Nat.min a b := by
  unfold minN
  split
  · rename_i h
    exact (Nat.min_eq_left (by simpa using h)).symm
  · rename_i h
    have : ¬ a ≤ b := by simpa using h
    exact (Nat.min_eq_right (by omega)).symm

theorem copyCells_sound {h h' : AH} {w : World} (r : Rel E m h w.heap) {s b o n : Nat} {x : AV} (hc : copyCells s b o n x h = some h') {X : Value} (hx : VR E m x X) :
    ∃ (vs : List Value) (cb : CB) (ob : Obj), (Builtin.firstCells s n X).run P w = .ok vs.toArray w ∧ m b = some cb ∧
      (storeCells ⟨cb.blk, o, none⟩ vs).run P w = .ok () { w with heap := w.heap.setIfInBounds cb.blk ob } ∧
      Rel E m h' (w.heap.setIfInBounds cb.blk ob) ∧ Fr m h w.heap m h' (w.heap.setIfInBounds cb.blk ob) := by
  unfold copyCells at hc
  split at hc <;> first | (simp at hc; done) | skip
  rename_i cs hcs
  obtain ⟨vs, g1, g2, g3, _⟩ := srcCells_sound (P := P) r hcs hx
  obtain ⟨cb, ob, k1, k2, k3, k4⟩ := r.write (P := P) hc g2 g3
  exact ⟨vs, cb, ob, g1 w rfl, k1, k2, k3, k4⟩

theorem copyRows_sound {h h' : AH} {w : World} (r : Rel E m h w.heap) {s b o b' o' n len cap : Nat} {ex : Bool} (hc : copyRows s b o b' o' n h = some h') {X : Value}
    (hx : VR E m (.slice b' o' len cap ex s) X) :
    ∃ (vs : List Value) (cb : CB) (ob : Obj), (Builtin.firstCells s n X).run P w = .ok vs.toArray w ∧ m b = some cb ∧
      (storeCells ⟨cb.blk, o, none⟩ vs).run P w = .ok () { w with heap := w.heap.setIfInBounds cb.blk ob } ∧
      Rel E m h' (w.heap.setIfInBounds cb.blk ob) ∧ Fr m h w.heap m h' (w.heap.setIfInBounds cb.blk ob) := by
  unfold copyRows at hc
  split at hc <;> first | (simp at hc; done) | skip
  rename_i z rs e z' rs' e' ro' hb hb'
  split at hc <;> first | (simp at hc; done) | skip
  rename_i q1 q2 q3 q4
  have q1 : z = s := by simpa using q1
  have q2 : z' = s := by simpa using q2
  have q3 : o % s = 0 := by simpa using q3
  have q4 : o' % s = 0 := by simpa using q4
  subst q1; subst q2
  split at hc <;> first | (simp at hc; done) | skip
  rename_i ws hws
  split at hc <;> first | (simp at hc; done) | skip
  rename_i rs'' hsp
  cases hc
  obtain ⟨cb', h1, hs0, hr', h2⟩ := r.dom b' _ hb'
  rw [dropL_eq] at hws
  obtain ⟨g1, rfl⟩ := takeL_some.1 hws
  rw [List.length_drop] at g1
  have hwl : ∀ q ∈ (rs'.drop (o' / z')).take n, q.length = z' := fun q hq => hr' q (List.mem_of_mem_drop (List.mem_of_mem_take hq))
  have hfl : ((rs'.drop (o' / z')).take n).flatten = (rs'.flatten.drop o').take (n * z') := by
    rw [flatten_take n (fun q hq => hr' q (List.mem_of_mem_drop hq)), flatten_drop _ hr', Nat.div_mul_cancel (Nat.dvd_of_mod_eq_zero q4)]
  have hbound : 0 < n * z' → o' + n * z' ≤ rs'.flatten.length := by
    intro hp
    have hn : 0 < n := by
      rcases Nat.eq_zero_or_pos n with q | q
      · subst q; simp at hp
      · exact q
    rw [flatten_length hr']
    have := Nat.mul_le_mul_right z' (show o' / z' + n ≤ rs'.length by omega)
    rw [Nat.add_mul, Nat.div_mul_cancel (Nat.dvd_of_mod_eq_zero q4)] at this
    exact this
  obtain ⟨vs, k1, k2, k3, k4⟩ := h2.at hbound
  rw [← hfl] at k1
  obtain ⟨cb, ob, k5, k6, k7, k8⟩ := r.writeRows (P := P) hb q3 hwl hsp k1 k3
  refine ⟨vs, cb, ob, ?_, k5, k6, k7, k8⟩
  cases hx with
  | slice hm hl hcp hex hs =>
    rw [h1] at hm; cases hm
    unfold Builtin.firstCells
    rw [← k2]
    exact run_loadCells k4

theorem copy_sound {h h' : AH} {w : World} (r : Rel E m h w.heap) {t e : TypeId} {s : Nat} (hu : P.underlying t = some (.slice e)) (hs : sizeT P e = some s) {d x v : AV} {D X : Value}
    (hd : VR E m d D) (hx : VR E m x X) (hv : acopy s d x h = some (v, h')) {ts : Array TypeId} (hts : ts[0]? = some t) (ty : TypeId) :
    ∃ y w', (Builtin.copy_ ts ty #[D, X]).run P w = .ok y w' ∧ Post E m h w v h' y w' := by
  unfold acopy at hv
  split at hv <;> first | (simp at hv; done) | skip
  rename_i mm hm
  have hlen := lenA_sound (P := P) hm hx w
  have start : ∀ {base : Option Addr} {l c : Nat}, D = .slice base l c → ∀ {y : Value} {w' : World}, (∀ vs : Array Value, (Builtin.firstCells s (Nat.min mm l) X).run P w = .ok vs w →
      (match base with
        | some a => storeCells a vs.toList >>= fun _ => pure (goInt (Nat.min mm l))
        | none => (pure (goInt (Nat.min mm l)) : Sem Value)).run P w = .ok y w') → (∃ vs : Array Value, (Builtin.firstCells s (Nat.min mm l) X).run P w = .ok vs w) →
      (Builtin.copy_ ts ty #[D, X]).run P w = .ok y w' := by
    rintro base l c rfl y w' hk ⟨vs, hvs⟩
    unfold Builtin.copy_
    simp only [hts]
    simp only [List.size_toArray, List.length_cons, List.length_nil, Nat.zero_add, Nat.reduceAdd, Nat.reduceLT, getElem?_pos, List.getElem_toArray, List.getElem_cons_zero, List.getElem_cons_succ]
    rw [bind_ok (run_underlying hu w)]
    simp only
    rw [bind_ok hlen, bind_ok (run_sizeOf hs w), bind_ok hvs]
    have := hk vs hvs
    cases base with
    | none => exact this
    | some a => exact this
  split at hv <;> first | (simp at hv; done) | skip
  · rename_i b o len cp ex s'
    split at hv <;> first | (simp at hv; done) | skip
    rename_i hs'
    have hs' : s' = s := by simpa using hs'
    subst hs'
    have fin : ∀ {h1 : AH}, some (AV.int .i64 (.ofNat (minN mm len)), h1) = some (v, h') → (∃ (vs : List Value) (cb : CB) (ob : Obj), (Builtin.firstCells s' (minN mm len) X).run P w = .ok vs.toArray w ∧ m b = some cb ∧
      (storeCells ⟨cb.blk, o, none⟩ vs).run P w = .ok () { w with heap := w.heap.setIfInBounds cb.blk ob } ∧
      Rel E m h1 (w.heap.setIfInBounds cb.blk ob) ∧ Fr m h w.heap m h1 (w.heap.setIfInBounds cb.blk ob)) →
      ∃ y w', (Builtin.copy_ ts ty #[D, X]).run P w = .ok y w' ∧ Post E m h w v h' y w' := by
      rintro h1 he ⟨vs, cb, ob, g1, g2, g3, g4, g5⟩
      cases he
      rw [minN_eq] at g1
      cases hd with
      | slice hm' hl hcp hex hsz =>
        rw [g2] at hm'; cases hm'
        refine ⟨goInt (Nat.min mm len), { w with heap := w.heap.setIfInBounds cb.blk ob }, start rfl ?_ ⟨_, g1⟩, m, by rw [minN_eq]; exact .int _ _, g4, g5, ⟨rfl, rfl, rfl⟩⟩
        intro vs' hvs'
        rw [g1] at hvs'; cases hvs'
        simp only
        rw [bind_ok g3]
        rfl
    split at hv
    · rename_i h1 hc
      refine fin hv ?_
      split at hc <;> first | (simp at hc; done) | skip
      split at hc <;> first | (simp at hc; done) | skip
      rename_i hz
      simp only [eqN_eq, decide_eq_true_eq] at hz
      rw [hz] at hx
      exact copyRows_sound r hc hx
    · split at hv <;> first | (simp at hv; done) | skip
      rename_i h1 hc
      exact fin hv (copyCells_sound r hc hx)
  all_goals
    cases hv; cases hd
    have hmin : Nat.min mm 0 = 0 := Nat.min_eq_right (Nat.zero_le _)
    have hfc : ∃ vs : Array Value, (Builtin.firstCells s (Nat.min mm 0) X).run P w = .ok vs w ∧ vs = #[] := by
      rw [hmin]
      unfold lenA at hm
      split at hm <;> first | (simp at hm; done) | skip
      all_goals cases hx
      · exact ⟨#[], by unfold Builtin.firstCells; rw [Nat.zero_mul]; rfl, rfl⟩
      · exact ⟨#[], rfl, rfl⟩
      · exact ⟨#[], by unfold Builtin.firstCells; rw [Nat.zero_mul]; rfl, rfl⟩
      · refine ⟨#[], ?_, rfl⟩
        unfold Builtin.firstCells
        simp
    obtain ⟨vs, g1, g2⟩ := hfc
    subst g2
    refine ⟨goInt (Nat.min mm 0), w, start rfl ?_ ⟨_, g1⟩, Post.of rfl (Same.refl w) r (by rw [hmin]; exact .int _ _)⟩
    intro vs' hvs'
    rw [g1] at hvs'; cases hvs'
    rfl
end
end Go.Ab
