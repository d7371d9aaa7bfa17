/-
  Regions that draw: the run in their text's order, as a trace.
-/
import Derived.Test.YtpbcecibooaebaaGreatDoorAbDraw6
namespace Go.Ab
open Go

/-- the run, item by item -/
theorem adraw_trace (base : Nat) (call : Call) : ∀ (l : List DI) (d dF : DS), (adraw l).f base call d = some dF →
    ∃ D : Nat → DS, D 0 = d ∧ D l.length = dF ∧ ∀ (k : Nat) p, l[k]? = some p → (ditem p).f base call (D k) = some (D (k + 1)) := by
  intro l
  induction l with
  | nil => intro d dF h; rw [adraw_nil] at h; cases h; exact ⟨fun _ => d, rfl, rfl, fun k p h => by simp at h⟩
  | cons p l ih =>
    intro d dF h
    rw [adraw_cons] at h
    split at h <;> first | (simp at h; done) | skip
    rename_i d1 h1
    obtain ⟨D, g1, g2, g3⟩ := ih d1 dF h
    refine ⟨fun k => Nat.rec (motive := fun _ => DS) d (fun k _ => D k) k, rfl, g2, fun k q hq => ?_⟩
    cases k with
    | zero =>
      have : p = q := by simpa using hq
      subst this
      show _ = some (D 0)
      rw [g1]; exact h1
    | succ k => exact g3 k q (by simpa using hq)

/-- how the items come of the instructions -/
structure Items (b acts : List Nat) (r : List (AO × Nat)) (ds : List DI) (K : Nat → Nat) (O : Nat → List (Nat × Nat)) : Prop where
  len : ds.length = r.length
  new : ∀ (i : Nat) o j, r[i]? = some (o, j) → floats o = true → ds[i]? = some (.fnew o (K i)) ∧ K (i + 1) = K i + 1 ∧ O (i + 1) = (j, K i) :: O i
  act : ∀ (i : Nat) o j, r[i]? = some (o, j) → floats o = false → o.op.act = true → ds[i]? = some (.act (((O i).filter fun f => bitAt b j f.1).map (·.2)) o) ∧ K (i + 1) = K i ∧
    O (i + 1) = (O i).filter fun f => !bitAt b j f.1
  read : ∀ (i : Nat) o j, r[i]? = some (o, j) → floats o = false → o.op.act = false → o.op.reads = true →
    ds[i]? = some (.read o (acts.filter fun c => bitAt b j c).length (acts.filter fun c => !bitAt b c j).length) ∧ K (i + 1) = K i ∧ O (i + 1) = O i
  op : ∀ (i : Nat) o j, r[i]? = some (o, j) → floats o = false → o.op.act = false → o.op.reads = false → ds[i]? = some (.op o) ∧ K (i + 1) = K i ∧ O (i + 1) = O i

def consF {α : Type} (a : α) (f : Nat → α) : Nat → α
  | 0 => a
  | n + 1 => f n

theorem dItems_trace (b acts : List Nat) : ∀ (r : List (AO × Nat)) (k : Nat) (op : List (Nat × Nat)) (ds : List DI) (last : List Nat), dItems b acts r k op = (ds, last) →
    ∃ K O, K 0 = k ∧ O 0 = op ∧ last = (O r.length).map (·.2) ∧ Items b acts r ds K O := by
  intro r
  induction r with
  | nil =>
    intro k op ds last h
    simp only [dItems, Prod.mk.injEq] at h
    obtain ⟨rfl, rfl⟩ := h
    exact ⟨fun _ => k, fun _ => op, rfl, rfl, rfl, rfl, fun i o j h => by simp at h, fun i o j h => by simp at h, fun i o j h => by simp at h, fun i o j h => by simp at h⟩
  | cons p r ih =>
    intro k op ds last h
    obtain ⟨o0, j0⟩ := p
    unfold dItems at h
    cases hf : floats o0 with
    | true =>
      rw [hf] at h
      simp only [Prod.mk.injEq] at h
      obtain ⟨rfl, rfl⟩ := h
      obtain ⟨K, O, g1, g2, g3, g4⟩ := ih (k + 1) ((j0, k) :: op) _ _ rfl
      refine ⟨consF k K, consF op O, rfl, rfl, g3, by simp [g4.len], ?_, ?_, ?_, ?_⟩
      · intro i o j hi hfl
        cases i with
        | zero =>
          simp only [List.getElem?_cons_zero, Option.some.injEq, Prod.mk.injEq] at hi
          obtain ⟨rfl, rfl⟩ := hi
          exact ⟨rfl, g1, g2⟩
        | succ i => exact g4.new i o j (by simpa using hi) hfl
      · intro i o j hi hfl
        cases i with
        | zero =>
          simp only [List.getElem?_cons_zero, Option.some.injEq, Prod.mk.injEq] at hi
          obtain ⟨rfl, rfl⟩ := hi
          rw [hf] at hfl; cases hfl
        | succ i => exact g4.act i o j (by simpa using hi) hfl
      · intro i o j hi hfl
        cases i with
        | zero =>
          simp only [List.getElem?_cons_zero, Option.some.injEq, Prod.mk.injEq] at hi
          obtain ⟨rfl, rfl⟩ := hi
          rw [hf] at hfl; cases hfl
        | succ i => exact g4.read i o j (by simpa using hi) hfl
      · intro i o j hi hfl
        cases i with
        | zero =>
          simp only [List.getElem?_cons_zero, Option.some.injEq, Prod.mk.injEq] at hi
          obtain ⟨rfl, rfl⟩ := hi
          rw [hf] at hfl; cases hfl
        | succ i => exact g4.op i o j (by simpa using hi) hfl
    | false =>
      rw [hf] at h
      cases ha : o0.op.act with
      | true =>
        rw [ha] at h
        simp only [Prod.mk.injEq] at h
        obtain ⟨rfl, rfl⟩ := h
        obtain ⟨K, O, g1, g2, g3, g4⟩ := ih k (op.filter fun f => !bitAt b j0 f.1) _ _ rfl
        refine ⟨consF k K, consF op O, rfl, rfl, g3, by simp [g4.len], ?_, ?_, ?_, ?_⟩
        · intro i o j hi hfl
          cases i with
          | zero =>
            simp only [List.getElem?_cons_zero, Option.some.injEq, Prod.mk.injEq] at hi
            obtain ⟨rfl, rfl⟩ := hi
            rw [hf] at hfl; cases hfl
          | succ i => exact g4.new i o j (by simpa using hi) hfl
        · intro i o j hi hfl hac
          cases i with
          | zero =>
            simp only [List.getElem?_cons_zero, Option.some.injEq, Prod.mk.injEq] at hi
            obtain ⟨rfl, rfl⟩ := hi
            exact ⟨rfl, g1, g2⟩
          | succ i => exact g4.act i o j (by simpa using hi) hfl hac
        · intro i o j hi hfl hac
          cases i with
          | zero =>
            simp only [List.getElem?_cons_zero, Option.some.injEq, Prod.mk.injEq] at hi
            obtain ⟨rfl, rfl⟩ := hi
            rw [ha] at hac; cases hac
          | succ i => exact g4.read i o j (by simpa using hi) hfl hac
        · intro i o j hi hfl hac
          cases i with
          | zero =>
            simp only [List.getElem?_cons_zero, Option.some.injEq, Prod.mk.injEq] at hi
            obtain ⟨rfl, rfl⟩ := hi
            rw [ha] at hac; cases hac
          | succ i => exact g4.op i o j (by simpa using hi) hfl hac
      | false =>
        rw [ha] at h
        cases hr : o0.op.reads with
        | true =>
          rw [hr] at h
          simp only [Prod.mk.injEq] at h
          obtain ⟨rfl, rfl⟩ := h
          obtain ⟨K, O, g1, g2, g3, g4⟩ := ih k op _ _ rfl
          refine ⟨consF k K, consF op O, rfl, rfl, g3, by simp [g4.len], ?_, ?_, ?_, ?_⟩
          · intro i o j hi hfl
            cases i with
            | zero =>
              simp only [List.getElem?_cons_zero, Option.some.injEq, Prod.mk.injEq] at hi
              obtain ⟨rfl, rfl⟩ := hi
              rw [hf] at hfl; cases hfl
            | succ i => exact g4.new i o j (by simpa using hi) hfl
          · intro i o j hi hfl hac
            cases i with
            | zero =>
              simp only [List.getElem?_cons_zero, Option.some.injEq, Prod.mk.injEq] at hi
              obtain ⟨rfl, rfl⟩ := hi
              rw [ha] at hac; cases hac
            | succ i => exact g4.act i o j (by simpa using hi) hfl hac
          · intro i o j hi hfl hac hre
            cases i with
            | zero =>
              simp only [List.getElem?_cons_zero, Option.some.injEq, Prod.mk.injEq] at hi
              obtain ⟨rfl, rfl⟩ := hi
              exact ⟨rfl, g1, g2⟩
            | succ i => exact g4.read i o j (by simpa using hi) hfl hac hre
          · intro i o j hi hfl hac hre
            cases i with
            | zero =>
              simp only [List.getElem?_cons_zero, Option.some.injEq, Prod.mk.injEq] at hi
              obtain ⟨rfl, rfl⟩ := hi
              rw [hr] at hre; cases hre
            | succ i => exact g4.op i o j (by simpa using hi) hfl hac hre
        | false =>
          rw [hr] at h
          simp only [Prod.mk.injEq] at h
          obtain ⟨rfl, rfl⟩ := h
          obtain ⟨K, O, g1, g2, g3, g4⟩ := ih k op _ _ rfl
          refine ⟨consF k K, consF op O, rfl, rfl, g3, by simp [g4.len], ?_, ?_, ?_, ?_⟩
          · intro i o j hi hfl
            cases i with
            | zero =>
              simp only [List.getElem?_cons_zero, Option.some.injEq, Prod.mk.injEq] at hi
              obtain ⟨rfl, rfl⟩ := hi
              rw [hf] at hfl; cases hfl
            | succ i => exact g4.new i o j (by simpa using hi) hfl
          · intro i o j hi hfl hac
            cases i with
            | zero =>
              simp only [List.getElem?_cons_zero, Option.some.injEq, Prod.mk.injEq] at hi
              obtain ⟨rfl, rfl⟩ := hi
              rw [ha] at hac; cases hac
            | succ i => exact g4.act i o j (by simpa using hi) hfl hac
          · intro i o j hi hfl hac hre
            cases i with
            | zero =>
              simp only [List.getElem?_cons_zero, Option.some.injEq, Prod.mk.injEq] at hi
              obtain ⟨rfl, rfl⟩ := hi
              rw [hr] at hre; cases hre
            | succ i => exact g4.read i o j (by simpa using hi) hfl hac hre
          · intro i o j hi hfl hac hre
            cases i with
            | zero =>
              simp only [List.getElem?_cons_zero, Option.some.injEq, Prod.mk.injEq] at hi
              obtain ⟨rfl, rfl⟩ := hi
              exact ⟨rfl, g1, g2⟩
            | succ i => exact g4.op i o j (by simpa using hi) hfl hac hre

/-! one item's step, taken apart -/

theorem op_item {base : Nat} {call : Call} {o : AO} {d d' : DS} (h : (ditem (.op o)).f base call d = some d') : ∃ s, (astep o).f call d.s = some s ∧ d' = ⟨s, d.pd, d.ls, d.hs⟩ := by
  simp only [ditem, onSt] at h
  split at h <;> first | (simp at h; done) | skip
  rename_i s hs
  cases h
  exact ⟨s, hs, rfl⟩

theorem read_item {base : Nat} {call : Call} {o : AO} {lo hi : Nat} {d d' : DS} (h : (ditem (.read o lo hi)).f base call d = some d') :
    (lo = hi ∧ ∃ s, (astep o).f call d.s = some s ∧ d' = ⟨s, d.pd, d.ls, d.hs⟩) ∨
    (awants o.guard d.s.tm = some false ∧ d' = ⟨⟨aput d.s.tm o.dst undef, d.s.h⟩, d.pd, d.ls, d.hs⟩) ∨
    (awants o.guard d.s.tm = some true ∧ ∃ v, o.op.pure.f d.s.tm d.s.h = some v ∧ d' = ⟨⟨aput d.s.tm o.dst v, d.s.h⟩, d.pd, ⟨lo, hi, o.op.pure.f d.s.tm, v⟩ :: d.ls, d.hs⟩) := by
  simp only [ditem] at h
  split at h
  · rename_i he
    simp only [onSt] at h
    split at h <;> first | (simp at h; done) | skip
    rename_i s hs
    cases h
    exact .inl ⟨by simpa using he, s, hs, rfl⟩
  · simp only at h
    split at h <;> first | (simp at h; done) | skip
    · rename_i hw
      cases h
      exact .inr (.inl ⟨hw, rfl⟩)
    · rename_i hw
      simp only [onRead] at h
      split at h <;> first | (simp at h; done) | skip
      rename_i v hv
      cases h
      exact .inr (.inr ⟨hw, v, hv, rfl⟩)

theorem new_item {base : Nat} {call : Call} {o : AO} {i : Nat} {d d' : DS} (h : (ditem (.fnew o i)).f base call d = some d') :
    ∃ v x, o.op.newBlk.f (base + i) d.s.tm = some (v, x) ∧ d' = ⟨⟨aput d.s.tm o.dst v, d.s.h⟩, (i, x) :: d.pd, d.ls, d.hs⟩ := by
  simp only [ditem, onNew] at h
  split at h <;> first | (simp at h; done) | skip
  rename_i v x hv
  cases h
  exact ⟨v, x, hv, rfl⟩

theorem act_item {base : Nat} {call : Call} {o : AO} {fl : List Nat} {d d' : DS} (h : (ditem (.act fl o)).f base call d = some d') :
    ∃ h1 s, lay base d.pd fl d.s.h = some h1 ∧ (astep o).f call ⟨d.s.tm, h1⟩ = some s ∧ d' = ⟨s, d.pd, d.ls, s.h :: d.hs⟩ := by
  simp only [ditem, onLaid] at h
  split at h <;> first | (simp at h; done) | skip
  rename_i h1 hl
  simp only [onAct] at h
  split at h <;> first | (simp at h; done) | skip
  rename_i s hs
  cases h
  exact ⟨h1, s, hl, hs, rfl⟩

theorem gives_pure {i : AI} (ha : i.act = false) {call : Call} {tm : FT} {h h' : AH} {v : AV} (g : i.gives call tm h = some (v, h')) : h' = h ∧ i.pure.f tm h = some v := by
  unfold AI.gives at g
  rw [ha] at g
  simp only at g
  split at g <;> first | (simp at g; done) | skip
  rename_i v' hv
  simp only [Option.some.injEq, Prod.mk.injEq] at g
  obtain ⟨rfl, rfl⟩ := g
  exact ⟨rfl, hv⟩

theorem astep_pure {o : AO} (ha : o.op.act = false) {call : Call} {s s' : St} (h : (astep o).f call s = some s') : s'.h = s.h := by
  rcases astep_some h with ⟨_, rfl⟩ | ⟨_, v, hv, _⟩
  · rfl
  · exact (gives_pure ha hv).1

theorem astep_tm {o : AO} {call : Call} {s s' : St} (h : (astep o).f call s = some s') : ∃ v, s'.tm = aput s.tm o.dst v := by
  rcases astep_some h with ⟨_, rfl⟩ | ⟨_, v, _, he⟩
  · exact ⟨_, rfl⟩
  · exact ⟨v, by rw [he]⟩
end Go.Ab
