/-
  The instructions that leave the heap as it is: aggregates, conversions, the rest.
-/
import Derived.Test.YtpbcecibooaebaaGreatDoorAbPure2
import Derived.Laws.Tables
namespace Go.Ab
open Go

section
variable {E : Cx} {m : Mp} {P : Program}

/-! aggregates -/

theorem zeroVal_sound {t : TypeId} {z : AV} (h : zeroVal P t = some z) : ∃ i v, P.info? t = some i ∧ i.zero = some v ∧ ofV v = some z := by
  unfold zeroVal at h
  split at h <;> first | (simp at h; done) | skip
  rename_i i hi
  split at h <;> first | (simp at h; done) | skip
  rename_i v hv
  exact ⟨i, v, hi, hv, h⟩

theorem run_zeroValue {t : TypeId} {i : TypeInfo} {v : Value} (h : P.info? t = some i) (hz : i.zero = some v) (w : World) : (zeroValue t).run P w = .ok v w := by
  unfold zeroValue
  rw [bind_ok (run_typeInfo h w)]
  simp [hz]

theorem ofV_held {v : Value} {a : AV} (h : ofV v = some a) : a.held = true := by
  unfold ofV at h
  split at h
  · split at h <;> first | (simp at h; done) | skip
    cases h; rfl
  · unfold ofLeaf at h
    split at h <;> first | (simp at h; done) | (cases h; rfl) | (split at h <;> first | (simp at h; done) | (cases h; rfl))

theorem zeroOf_sound {t : TypeId} {zs : List AV} (h : zeroOf P t = some zs) : ∃ i v, P.info? t = some i ∧ i.zero = some v ∧ LR E m zs v.cells.toList ∧ ∀ x ∈ v.cells.toList, leafV x = true := by
  unfold zeroOf at h
  split at h <;> first | (simp at h; done) | skip
  rename_i z hz
  cases h
  obtain ⟨i, v, h1, h2, h3⟩ := zeroVal_sound hz
  obtain ⟨g1, g2⟩ := (ofV_sound (E := E) (m := m) h3).cells (ofV_held h3)
  exact ⟨i, v, h1, h2, g1, g2⟩

theorem foldl_set (off : Nat) : ∀ (l : List Value) (k : Nat) (c : Array Value), off + k + l.length ≤ c.size →
    ((l.zipIdx k).foldl (fun cs p => cs.setIfInBounds (off + p.2) p.1) c).size = c.size ∧
    ∀ i, ((l.zipIdx k).foldl (fun cs p => cs.setIfInBounds (off + p.2) p.1) c)[i]? = if off + k ≤ i ∧ i < off + k + l.length then l[i - (off + k)]? else c[i]? := by
  intro l
  induction l with
  | nil => intro k c _; exact ⟨rfl, fun i => by simp; omega⟩
  | cons v l ih =>
    intro k c h
    simp only [List.length_cons] at h
    simp only [List.zipIdx_cons, List.foldl_cons]
    obtain ⟨h1, h2⟩ := ih (k + 1) (c.setIfInBounds (off + k) v) (by simp; omega)
    refine ⟨by simpa using h1, fun i => ?_⟩
    rw [h2 i, Array.getElem?_setIfInBounds]
    by_cases hj : off + (k + 1) ≤ i ∧ i < off + (k + 1) + l.length
    · rw [if_pos hj, if_pos (by simp; omega), show i - (off + k) = (i - (off + (k + 1))) + 1 by omega]; simp
    · rw [if_neg hj]
      by_cases hj2 : off + k = i
      · rw [if_pos hj2, if_pos (by omega), if_pos (by simp; omega), show i - (off + k) = 0 by omega]; rfl
      · rw [if_neg hj2, if_neg (by simp; omega)]

theorem afill_cons (tm : FT) (off size : Nat) (x : Opd) (ps : List ((Nat × Nat) × Opd)) (cells : List AV) :
    afill tm (((off, size), x) :: ps) cells = match eqN (lenL (opd x tm).cells) size, spliceL (opd x tm).cells off cells, (opd x tm).held with
      | true, some cells, true => afill tm ps cells
      | _, _, _ => none := rfl

theorem fill_sound (hg : Globs P m) {place : Nat → Option (Nat × Nat)} {tm : FT} {a : Act} (hf : FR E m tm a.tmps) : ∀ {ps : List (Nat × Operand)} {qs : List ((Nat × Nat) × Opd)},
    cParts P place ps = some qs → ∀ {cells cs : List AV} {xs : Array Value}, afill tm qs cells = some cs → LR E m cells xs.toList → (∀ x ∈ xs.toList, leafV x = true) →
    ∃ ys, Instr.fill place xs (ps.map fun p => (p.1, a.eval p.2)) = some ys ∧ LR E m cs ys.toList ∧ (∀ x ∈ ys.toList, leafV x = true) := by
  intro ps
  induction ps with
  | nil =>
    intro qs h cells cs xs hc hl hx
    simp [cParts, mapO] at h
    subst h
    cases (show some cells = some cs from hc)
    exact ⟨xs, rfl, hl, hx⟩
  | cons p ps ih =>
    intro qs h cells cs xs hc hl hx
    obtain ⟨i, o⟩ := p
    unfold cParts mapO at h
    split at h <;> first | (simp at h; done) | skip
    rename_i q qs' h1 h2
    cases h
    simp only at h1
    split at h1 <;> first | (simp at h1; done) | skip
    rename_i os x h3 h4
    cases h1
    obtain ⟨off, size⟩ := os
    rw [afill_cons] at hc
    split at hc <;> first | (simp at hc; done) | skip
    rename_i cells' g1 g2 g3
    have g1 : (opd x tm).cells.length = size := by simpa using g1
    obtain ⟨g4, g5⟩ := spliceL_some g2
    have hv := cOpd_sound (E := E) hg h4 hf
    obtain ⟨k1, k2⟩ := hv.cells g3
    have hsz : (a.eval o).cells.size = size := by rw [← g1, k1.1]; simp
    obtain ⟨f1, f2⟩ := foldl_set off (a.eval o).cells.toList 0 xs (by have := hl.1; have := k1.1; simp at *; omega)
    simp only [List.map_cons, Instr.fill, h3]
    have hle : ¬ ((a.eval o).cells.size ≠ size ∨ off + (a.eval o).cells.size > xs.size) := by have := hl.1; have := k1.1; simp at *; omega
    rw [if_neg (by simpa using hle)]
    have e : (a.eval o).cells.zipIdx.foldl (fun cs p => match p with | (c, j) => cs.setIfInBounds (off + j) c) xs =
        ((a.eval o).cells.toList.zipIdx 0).foldl (fun cs p => cs.setIfInBounds (off + p.2) p.1) xs := by
      rw [← Array.foldl_toList]
      congr 1
      simp
    rw [e]
    generalize ((a.eval o).cells.toList.zipIdx 0).foldl (fun cs p => cs.setIfInBounds (off + p.2) p.1) xs = ys at f1 f2
    refine ih h2 hc ⟨?_, ?_⟩ ?_
    · rw [g5]; have := hl.1; simp at *; omega
    · intro j c v hc' hv'
      rw [Array.getElem?_toList, f2 j] at hv'
      rw [g5] at hc'
      have hlen := k1.1
      by_cases h6 : j < off
      · rw [if_neg (by omega)] at hv'
        rw [List.append_assoc, List.getElem?_append_left (by simp; omega), List.getElem?_take, if_pos h6] at hc'
        exact hl.2 j c v hc' (by simpa using hv')
      · by_cases h7 : j < off + (opd x tm).cells.length
        · rw [if_pos (by omega)] at hv'
          rw [List.append_assoc, List.getElem?_append_right (by simp; omega), List.getElem?_append_left (by simp; omega)] at hc'
          have e1 : j - (cells.take off).length = j - off := by simp; omega
          rw [e1] at hc'
          exact k1.2 _ c v hc' (by simpa using hv')
        · rw [if_neg (by omega)] at hv'
          rw [List.getElem?_append_right (by simp; omega), List.getElem?_drop] at hc'
          have e1 : off + (opd x tm).cells.length + (j - (cells.take off ++ (opd x tm).cells).length) = j := by simp; omega
          rw [e1] at hc'
          exact hl.2 j c v hc' (by simpa using hv')
    · intro y hy
      obtain ⟨j, hj, rfl⟩ := Array.mem_iff_getElem.1 (Array.mem_toList_iff.1 hy)
      have := f2 j
      rw [Array.getElem?_eq_getElem hj] at this
      split at this
      · exact k2 _ (List.mem_of_getElem? this.symm)
      · exact hx _ (Array.mem_toList_iff.2 (Array.mem_of_getElem? this.symm))

theorem build_sound (hg : Globs P m) {t : TypeId} {ps : Array (Nat × Operand)} {i : AI} (hc : cOp P (.build t ps) = some i) {tm : FT} {a : Act} (hf : FR E m tm a.tmps) {h : AH} {v : AV}
    (hv : i.pure.f tm h = some v) (w : World) : ∃ y, (Instr.build t (ps.map fun (i, x) => (i, a.eval x))).run P w = .ok y w ∧ VR E m v y := by
  simp only [cOp] at hc
  split at hc <;> first | (simp at hc; done) | skip
  · rename_i z fs hz hu
    split at hc <;> first | (simp at hc; done) | skip
    rename_i places hp
    split at hc <;> first | (simp at hc; done) | skip
    rename_i qs hq
    cases hc
    simp only [AI.pure] at hv
    split at hv <;> first | (simp at hv; done) | skip
    rename_i cs hcs
    cases hv
    obtain ⟨it, zv, h1, h2, h3, h4⟩ := zeroOf_sound (E := E) (m := m) hz
    obtain ⟨ys, g1, g2, g3⟩ := fill_sound hg hf hq hcs h3 h4
    refine ⟨.agg ys, run_build w t _ ys ?_, ?_⟩
    · simp only [Program.built, h1, hu, h2, hp]
      rw [← g1]
      congr 1
      simp
    · simpa using g2.agg g3
  · rename_i z n e hz hu
    split at hc <;> first | (simp at hc; done) | skip
    rename_i ie hie
    split at hc <;> first | (simp at hc; done) | skip
    rename_i qs hq
    cases hc
    simp only [AI.pure] at hv
    split at hv <;> first | (simp at hv; done) | skip
    rename_i cs hcs
    cases hv
    obtain ⟨it, zv, h1, h2, h3, h4⟩ := zeroOf_sound (E := E) (m := m) hz
    obtain ⟨ys, g1, g2, g3⟩ := fill_sound hg hf hq hcs h3 h4
    refine ⟨.agg ys, run_build w t _ ys ?_, ?_⟩
    · simp only [Program.built, h1, hu, h2, hie]
      rw [← g1]
      congr 1
      simp
    · simpa using g2.agg g3
end
end Go.Ab
