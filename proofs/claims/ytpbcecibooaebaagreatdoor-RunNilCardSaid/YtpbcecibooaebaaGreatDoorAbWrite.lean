/-
  The abstract heap's writes, new blocks and slices in the model's memory.
-/
import Derived.Test.YtpbcecibooaebaaGreatDoorAbMem
namespace Go.Ab
open Go

section
variable {E : Cx} {m : Mp} {P : Program}

theorem chunksL_some {s : Nat} : ∀ {k : Nat} {l : List AV} {rs : List (List AV)}, chunksL s k l = some rs → (∀ r ∈ rs, r.length = s) ∧ rs.flatten = l := by
  intro k
  induction k with
  | zero =>
    intro l rs h
    cases l with
    | nil => cases (show some [] = some rs from h); simp
    | cons a l => exact absurd (show none = some rs from h) (by simp)
  | succ k ih =>
    intro l rs h
    have e : chunksL s (k + 1) l = (match takeL s l, chunksL s k (dropL s l) with
      | some r, some rs => some (r :: rs)
      | _, _ => none) := rfl
    rw [e] at h
    split at h
    · rename_i r rs' h1 h2
      cases h
      obtain ⟨h3, rfl⟩ := takeL_some.1 h1
      obtain ⟨h4, h5⟩ := ih h2
      refine ⟨fun q hq => ?_, ?_⟩
      · rcases List.mem_cons.1 hq with rfl | hq
        · simp; omega
        · exact h4 q hq
      · simp only [List.flatten_cons, h5, dropL_eq, List.take_append_drop]
    · simp at h

theorem flatten_splice {s : Nat} {rs ws rs' : List (List AV)} {k : Nat} (hr : ∀ r ∈ rs, r.length = s) (hw : ∀ r ∈ ws, r.length = s) (h : spliceL ws k rs = some rs') :
    (∀ r ∈ rs', r.length = s) ∧ k * s + ws.flatten.length ≤ rs.flatten.length ∧
      rs'.flatten = rs.flatten.take (k * s) ++ ws.flatten ++ rs.flatten.drop (k * s + ws.flatten.length) := by
  obtain ⟨h1, rfl⟩ := spliceL_some h
  have e1 := flatten_length hw
  have e2 := flatten_length hr
  refine ⟨fun r hm => ?_, ?_, ?_⟩
  · rcases List.mem_append.1 hm with hm | hm
    · rcases List.mem_append.1 hm with hm | hm
      · exact hr r (List.mem_of_mem_take hm)
      · exact hw r hm
    · exact hr r (List.mem_of_mem_drop hm)
  · have : (k + ws.length) * s ≤ rs.length * s := Nat.mul_le_mul_right _ h1
    rw [Nat.add_mul] at this; omega
  · rw [List.flatten_append, List.flatten_append, flatten_take _ hr, flatten_drop _ hr, e1, ← Nat.add_mul]

theorem row_splice {s : Nat} {rs rs' : List (List AV)} {r r' vs : List AV} {o : Nat} (hr : ∀ r ∈ rs, r.length = s) (hd : ∃ q, rs.drop (o / s) = r :: q)
    (h1 : spliceL vs (o % s) r = some r') (h2 : spliceL [r'] (o / s) rs = some rs') :
    (∀ r ∈ rs', r.length = s) ∧ o + vs.length ≤ rs.flatten.length ∧ rs'.flatten = rs.flatten.take o ++ vs ++ rs.flatten.drop (o + vs.length) := by
  obtain ⟨q, hd⟩ := hd
  have hmem : r ∈ rs := List.mem_of_mem_drop (i := o / s) (by rw [hd]; exact List.mem_cons_self ..)
  have hrl := hr r hmem
  obtain ⟨g1, rfl⟩ := spliceL_some h1
  have hw : ∀ q ∈ [r.take (o % s) ++ vs ++ r.drop (o % s + vs.length)], q.length = s := by
    intro q hq
    rw [List.mem_singleton] at hq
    subst hq
    simp; omega
  obtain ⟨g2, g3, g4⟩ := flatten_splice hr hw h2
  have hl : [r.take (o % s) ++ vs ++ r.drop (o % s + vs.length)].flatten.length = s := by rw [flatten_length hw]; simp
  rw [hl] at g3 g4
  have ho : o = o / s * s + o % s := by rw [Nat.mul_comm]; exact (Nat.div_add_mod o s).symm
  have hF : rs.flatten.drop (o / s * s) = r ++ rs.flatten.drop (o / s * s + s) := by
    have : (rs.drop (o / s)).flatten = r ++ q.flatten := by rw [hd]; simp
    rw [flatten_drop _ hr] at this
    rw [← List.drop_drop, this, List.drop_append, List.drop_eq_nil_of_le (as := r) (by omega), hrl]
    simp
  refine ⟨g2, by omega, ?_⟩
  rw [g4]
  have t1 : rs.flatten.take o = rs.flatten.take (o / s * s) ++ r.take (o % s) := by
    conv => lhs; rw [ho]
    rw [List.take_add, hF, List.take_append, show o % s - r.length = 0 by omega]
    simp
  have t2 : rs.flatten.drop (o + vs.length) = r.drop (o % s + vs.length) ++ rs.flatten.drop (o / s * s + s) := by
    have : o + vs.length = o / s * s + (o % s + vs.length) := by omega
    rw [this, ← List.drop_drop, hF, List.drop_append, show o % s + vs.length - r.length = 0 by omega]
    simp
  rw [t1, t2]
  simp

/-- a write -/
theorem Rel.write {h h' : AH} {w : World} (r : Rel E m h w.heap) {b o : Nat} {vs : List AV} {xs : List Value} (hw : h.write b o vs = some h')
    (hv : LR E m vs xs) (hl : ∀ x ∈ xs, leafV x = true) :
    ∃ cb ob, m b = some cb ∧ (storeCells ⟨cb.blk, o, none⟩ xs).run P w = .ok () { w with heap := w.heap.setIfInBounds cb.blk ob } ∧
      Rel E m h' (w.heap.setIfInBounds cb.blk ob) ∧ Fr m h w.heap m h' (w.heap.setIfInBounds cb.blk ob) := by
  unfold AH.write at hw
  split at hw
  · rename_i cs e hb
    split at hw
    · rename_i cs' hs
      cases hw
      obtain ⟨cb, h1, h2⟩ := r.dom b _ hb
      obtain ⟨g1, rfl⟩ := spliceL_some hs
      obtain ⟨ob, g2, g3⟩ := CellsR.write (P := P) h2 g1 hv hl
      obtain ⟨g4, g5⟩ := r.put hb rfl h1 (y := .cells _ e false) g3
      exact ⟨cb, ob, h1, g2, g4, g5⟩
    · simp at hw
  · rename_i s rs e hb
    obtain ⟨cb, h1, hs, hr, h2⟩ := r.dom b _ hb
    have done : ∀ {rs' : List (List AV)}, (∀ r ∈ rs', r.length = s) → o + vs.length ≤ rs.flatten.length →
        rs'.flatten = rs.flatten.take o ++ vs ++ rs.flatten.drop (o + vs.length) → h' = h.put b (.rows s rs' e false) →
        ∃ cb ob, m b = some cb ∧ (storeCells ⟨cb.blk, o, none⟩ xs).run P w = .ok () { w with heap := w.heap.setIfInBounds cb.blk ob } ∧
          Rel E m h' (w.heap.setIfInBounds cb.blk ob) ∧ Fr m h w.heap m h' (w.heap.setIfInBounds cb.blk ob) := by
      intro rs' q1 q2 q3 q4
      subst q4
      obtain ⟨ob, g2, g3⟩ := CellsR.write (P := P) h2 q2 hv hl
      rw [← q3] at g3
      obtain ⟨g4, g5⟩ := r.put hb rfl h1 (y := .rows s rs' e false) ⟨hs, q1, g3⟩
      exact ⟨cb, ob, h1, g2, g4, g5⟩
    split at hw
    · simp at hw
    · rename_i ro q hd
      rw [dropL_eq] at hd
      split at hw
      · rename_i r' hs1
        split at hw
        · rename_i rs' hs2
          cases hw
          obtain ⟨a1, a2, a3⟩ := row_splice hr ⟨q, hd⟩ hs1 hs2
          exact done a1 a2 a3 rfl
        · simp at hw
      · split at hw
        · rename_i ws ho hch
          split at hw
          · rename_i rs' hs2
            cases hw
            obtain ⟨b1, b2⟩ := chunksL_some hch
            obtain ⟨a1, a2, a3⟩ := flatten_splice hr b1 hs2
            rw [b2] at a2 a3
            have ho : o % s = 0 := by simpa using ho
            rw [Nat.div_mul_cancel (Nat.dvd_of_mod_eq_zero ho)] at a2 a3
            exact done a1 a2 a3 rfl
          · simp at hw
        · simp at hw
  · simp at hw
end
end Go.Ab
