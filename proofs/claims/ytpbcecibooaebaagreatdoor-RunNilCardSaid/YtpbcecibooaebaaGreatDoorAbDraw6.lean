/-
  Regions that draw: the run in their text's order.
-/
import Derived.Test.YtpbcecibooaebaaGreatDoorAbDraw5
namespace Go.Ab
open Go

theorem nth_aput (tm : FT) (d : Option Nat) (v : AV) (t : Nat) : nth (aput tm d v) t = if d = some t then v else nth tm t := by
  cases d with
  | none => rfl
  | some d =>
    simp only [aput, withV_eq, nth_setNth, Option.some.injEq]

theorem adraw_nil (base : Nat) (call : Call) (d : DS) : (adraw []).f base call d = some d := rfl

theorem adraw_cons (p : DI) (l : List DI) (base : Nat) (call : Call) (d : DS) : (adraw (p :: l)).f base call d = match (ditem p).f base call d with
    | some d => (adraw l).f base call d
    | none => none := rfl

/-- an instruction's temporaries: its operands, its guard -/
theorem names_opd {o : AO} {tm tm' : FT} (h : ∀ t ∈ o.names, nth tm t = nth tm' t) : ∀ x ∈ o.op.opds, opd x tm = opd x tm' := by
  intro x hx
  cases x with
  | c v => rfl
  | t i =>
    refine h i ?_
    unfold AO.names
    exact List.mem_append_right _ (List.mem_filterMap.2 ⟨.t i, hx, rfl⟩)

theorem names_guard {o : AO} {tm tm' : FT} (h : ∀ t ∈ o.names, nth tm t = nth tm' t) : awants o.guard tm = awants o.guard tm' := by
  cases hg : o.guard with
  | none => rfl
  | some g =>
    obtain ⟨d, want⟩ := g
    have : nth tm d = nth tm' d := h d (by unfold AO.names; rw [hg]; simp)
    simp only [awants, this]

theorem distinct_spec : ∀ {l : List AO}, distinct (l.filterMap (·.dst)) = true → ∀ (i j : Nat) (o p : AO) (d : Nat), l[i]? = some o → l[j]? = some p → o.dst = some d → p.dst = some d → i = j := by
  have mem : ∀ {l : List AO} {j : Nat} {p : AO} {d : Nat}, l[j]? = some p → p.dst = some d → d ∈ l.filterMap (·.dst) := fun h hd => List.mem_filterMap.2 ⟨_, List.mem_of_getElem? h, hd⟩
  intro l
  induction l with
  | nil => intro _ i j o p d h; simp at h
  | cons a l ih =>
    intro h i j o p d hi hj ho hp
    cases ha : a.dst with
    | none =>
      rw [List.filterMap_cons_none ha] at h
      cases i with
      | zero => simp at hi; subst hi; rw [ha] at ho; cases ho
      | succ i =>
        cases j with
        | zero => simp at hj; subst hj; rw [ha] at hp; cases hp
        | succ j => rw [ih h i j o p d (by simpa using hi) (by simpa using hj) ho hp]
    | some x =>
      rw [List.filterMap_cons_some ha] at h
      simp only [distinct, Bool.and_eq_true] at h
      have hx : ∀ y ∈ l.filterMap (·.dst), x ≠ y := by
        intro y hy
        have := List.all_eq_true.1 h.1 y hy
        intro e
        subst e
        simp at this
      cases i with
      | zero =>
        simp at hi; subst hi
        rw [ha] at ho; cases ho
        cases j with
        | zero => rfl
        | succ j => exact absurd rfl (hx _ (mem (by simpa using hj) hp))
      | succ i =>
        cases j with
        | zero =>
          simp at hj; subst hj
          rw [ha] at hp; cases hp
          exact absurd rfl (hx _ (mem (by simpa using hi) ho))
        | succ j => rw [ih h.2 i j o p d (by simpa using hi) (by simpa using hj) ho hp]
end Go.Ab
