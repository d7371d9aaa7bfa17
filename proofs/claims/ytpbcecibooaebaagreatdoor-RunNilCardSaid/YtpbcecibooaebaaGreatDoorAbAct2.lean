/-
  The abstract machine's instructions that write: stores, copies, appends.
-/
import Derived.Test.YtpbcecibooaebaaGreatDoorAbAct1
namespace Go.Ab
open Go

section
variable {E : Cx} {m : Mp} {P : Program}

theorem store_sound {h h' : AH} {w : World} (r : Rel E m h w.heap) {t : TypeId} {n : Nat} (ht : sizeT P t = some n) {b o : Nat} {X V : Value} {v : AV} (hx : VR E m (.ptr b o) X)
    (hv : VR E m v V) (hh : v.held = true) (hn : v.cells.length = n) (hw : h.write b o v.cells = some h') :
    ∃ w', (Instr.storeAt t X V).run P w = .ok () w' ∧ Post E m h w undef h' Go.undef w' := by
  obtain ⟨g1, g2⟩ := hv.cells hh
  obtain ⟨cb, ob, k1, k2, k3, k4⟩ := r.write (P := P) hw g1 g2
  cases hx with
  | ptr hm =>
    rw [k1] at hm; cases hm
    refine ⟨{ w with heap := w.heap.setIfInBounds cb.blk ob }, ?_, m, .undef, k3, k4, ⟨rfl, rfl, rfl⟩⟩
    unfold Instr.storeAt Instr.sureAddr
    rw [bind_ok (run_pure _ w)]
    unfold storeVar
    rw [bind_ok (run_sizeOf ht w)]
    have : V.cells.size = n := by rw [← hn, g1.1]; simp
    rw [if_neg (by simpa using this)]
    exact k2

/-! the cells that are copied -/

theorem lenA_sound {x : AV} {n : Nat} (h : lenA x = some n) {X : Value} (hx : VR E m x X) (w : World) : (Builtin.lenOf X).run P w = .ok n w := by
  unfold lenA at h
  split at h <;> first | (simp at h; done) | skip
  all_goals cases h; cases hx
  · rfl
  · rfl
  · rfl
  · simp [Builtin.lenOf, size_mk]

theorem srcCells_sound {h : AH} {w : World} (r : Rel E m h w.heap) {s n : Nat} {x : AV} {cs : List AV} (hc : srcCells h s n x = some cs) {X : Value} (hx : VR E m x X) :
    ∃ vs : List Value, (∀ w', w'.heap = w.heap → (Builtin.firstCells s n X).run P w' = .ok vs.toArray w') ∧ LR E m cs vs ∧ (∀ y ∈ vs, leafV y = true) ∧ (lenA x = some n → vs.length = n * s) := by
  unfold srcCells at hc
  split at hc <;> first | (simp at hc; done) | skip
  · split at hc <;> first | (simp at hc; done) | skip
    obtain ⟨cb, vs, h1, h2, h3, h4, h5⟩ := r.at hc
    cases hx with
    | slice hm hl hcp hex hs =>
      rw [h1] at hm; cases hm
      refine ⟨vs, fun w' hw' => ?_, h2, h4, fun _ => h3⟩
      unfold Builtin.firstCells
      rw [← h3]
      exact run_loadCells (by rw [hw']; exact h5)
  · cases hc; cases hx
    exact ⟨[], fun _ _ => rfl, LR.nil, by simp, fun h => by cases h; simp⟩
  · split at hc <;> first | (simp at hc; done) | skip
    rename_i hn
    cases hc; cases hx
    have : n = 0 := by simpa using hn
    subst this
    refine ⟨[], fun w' _ => ?_, LR.nil, by simp, fun _ => by simp⟩
    unfold Builtin.firstCells
    rw [Nat.zero_mul]
    rfl
  · rename_i l
    split at hc <;> first | (simp at hc; done) | skip
    rename_i q hs1 hq
    cases hc; cases hx
    obtain ⟨g1, rfl⟩ := takeL_some.1 hq
    refine ⟨(l.take n).map fun b => Value.int .u8 b.toNat, fun w' _ => ?_, cellsOfBytes_LR _, leaf_bytes _, fun _ => ?_⟩
    rotate_left
    · have : s = 1 := by simpa using hs1
      subst this; simp; omega
    show Result.ok (((⟨⟨l⟩⟩ : ByteArray).extract 0 n).data.map fun b => Value.int .u8 b.toNat) w' = _
    rw [extract_mk]
    simp

theorem clear_sound {h h' : AH} {w : World} (r : Rel E m h w.heap) {t e : TypeId} (hu : P.underlying t = some (.slice e)) {z : List AV} (hz : zeroOf P e = some z) {d v : AV} {D : Value}
    (hd : VR E m d D) (hv : aclear z d h = some (v, h')) {ts : Array TypeId} (hts : ts[0]? = some t) (ty : TypeId) :
    ∃ x w', (Builtin.clear_ ts ty #[D]).run P w = .ok x w' ∧ Post E m h w v h' x w' := by
  unfold aclear at hv
  split at hv <;> first | (simp at hv; done) | skip
  · cases hv; cases hd
    refine ⟨_, w, ?_, Post.of rfl (Same.refl w) r .undef⟩
    unfold Builtin.clear_
    simp only [hts]
    simp only [List.size_toArray, List.length_cons, List.length_nil, Nat.zero_add, Nat.lt_add_one, getElem?_pos, List.getElem_toArray, List.getElem_cons_zero]
    rw [bind_ok (run_underlying hu w)]
    rfl
  · cases hv; cases hd
    refine ⟨_, w, ?_, Post.of rfl (Same.refl w) r .undef⟩
    unfold Builtin.clear_
    simp only [hts]
    simp only [List.size_toArray, List.length_cons, List.length_nil, Nat.zero_add, Nat.lt_add_one, getElem?_pos, List.getElem_toArray, List.getElem_cons_zero]
    rw [bind_ok (run_underlying hu w)]
    rfl
  · rename_i b o n cp ex s
    split at hv <;> first | (simp at hv; done) | skip
    · rename_i hn
      have : n = 0 := by simpa using hn
      subst this
      cases hv; cases hd
      refine ⟨_, w, ?_, Post.of rfl (Same.refl w) r .undef⟩
      unfold Builtin.clear_
      simp only [hts]
      simp only [List.size_toArray, List.length_cons, List.length_nil, Nat.zero_add, Nat.lt_add_one, getElem?_pos, List.getElem_toArray, List.getElem_cons_zero]
      rw [bind_ok (run_underlying hu w)]
      rfl
    · rename_i hn hs
      split at hv <;> first | (simp at hv; done) | skip
      rename_i h2 hw
      cases hv
      have hn : n ≠ 0 := by simpa using hn
      obtain ⟨i, zv, h1, h3, h4, h5⟩ := zeroOf_sound (E := E) (m := m) hz
      obtain ⟨cb, ob, k1, k2, k3, k4⟩ := r.write (P := P) hw (h4.rep n) (leaf_rep h5 n)
      cases hd with
      | slice hm hl hcp hex hsz =>
        rename_i cb' C
        rw [k1] at hm; cases hm
        refine ⟨_, { w with heap := w.heap.setIfInBounds cb.blk ob }, ?_, m, .undef, k3, k4, ⟨rfl, rfl, rfl⟩⟩
        unfold Builtin.clear_
        simp only [hts]
        simp only [List.size_toArray, List.length_cons, List.length_nil, Nat.zero_add, Nat.lt_add_one, getElem?_pos, List.getElem_toArray, List.getElem_cons_zero]
        rw [bind_ok (run_underlying hu w)]
        obtain ⟨k, rfl⟩ := Nat.exists_eq_succ_of_ne_zero hn
        simp only
        rw [bind_ok (run_zeroValue h1 h3 w)]
        have hzc : (Builtin.zeroCells zv.cells (k + 1)).toList = (List.replicate (k + 1) zv.cells.toList).flatten := by
          unfold Builtin.zeroCells
          by_cases hz0 : zv.cells.size = 0
          · have : zv.cells = #[] := Array.eq_empty_of_size_eq_zero hz0
            simp [this]
          · exact range_map rfl (by omega) (k + 1)
        rw [hzc, bind_ok k2]
        rfl
end
end Go.Ab
