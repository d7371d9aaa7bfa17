/-
  strings.Index at whatever internal/bytealg.MaxLen holds: what it tells, the heap left as it is.
-/
import Derived.Test.YtpbcecibooaebaaGreatDoorAbStart
namespace Go.Ab
open Go Go.RowKit

/-- g: the variable MaxLen, which holds the k-th value that is handed through -/
noncomputable def prIndex (g k : Nat) (as : List AV) (h : AH) : Option AV :=
  match as with
  | [.str s, .str p] => match h.get g with
    | some (.cells (.ext j :: _) _ _) => match eqN j k, ltN (lenL s) 4294967281 with
      | true, true => match p with
        | [] => some (.int .i64 (.ofNat 0))
        | c :: q => some (.int .i64 (indexStrL (c :: q) s 0))
      | _, _ => none
    | _ => none
  | _ => none

section
variable {E : Cx} {P : Program}

theorem prIndex_ok {f g k : Nat} {M : Int} (hE : E.ext k = .int .i64 M) (hg : g < P.globals.size) (hf : ∃ fn c, P.funcs[f]? = some fn ∧ fn.body = some c ∧ fn.name ≠ "runtime.NumGoroutine")
    (hc : ∀ (s sub : ByteArray) (m : Int) (w : World), s.size < 4294967281 → w.cell? ⟨g, 0, none⟩ = some (.int .i64 m) →
      Calls P f #[.string s, .string sub] w fun e w' => e = .returned (.int .i64 (Lib.index s.data.toList sub.data.toList)) ∧ w' = w) : PrOk E P f (prIndex g k) := by
  refine ⟨hf, fun {as v h} hp {m w args} hgl r hl => ?_⟩
  unfold prIndex at hp
  split at hp <;> first | (simp at hp; done) | skip
  rename_i s p
  split at hp <;> first | (simp at hp; done) | skip
  rename_i j rest e ro hget
  split at hp <;> first | (simp at hp; done) | skip
  rename_i hj hs
  have hj : j = k := by simpa using hj
  subst hj
  have hs : s.length < 4294967281 := by simpa using hs
  have hv : v = .int .i64 (Lib.index s p) := by
    split at hp
    · simp only [Option.some.injEq] at hp
      rw [← hp]
      cases s <;> rfl
    · simp only [Option.some.injEq] at hp
      rw [← hp, indexStrL_eq _ (by simp)]
      split
      · rename_i h; rw [h]
      · simp
  subst hv
  -- what the variable holds
  obtain ⟨cb, h1, c, fz, h2, _, _, h4, _⟩ := r.dom g _ hget
  obtain ⟨cb', g1, g2⟩ := hgl g hg
  rw [h1] at g1; cases g1
  obtain ⟨x, h5, h6, _⟩ := h4 0 (.ext j) rfl
  have hx : x = .int .i64 M := by
    generalize hy : AV.ext j = y at h6
    cases h6 <;> first | (cases hy; exact hE) | (cases hy; done)
  subst hx
  rw [g2] at h2
  have hcell : w.cell? ⟨g, 0, none⟩ = some (.int .i64 M) := by
    simp [World.cell?, h2, h5]
  -- the arguments
  obtain ⟨x1, t1, e1, v1, l1⟩ := hl.cons_inv
  obtain ⟨x2, t2, e2, v2, l2⟩ := l1.cons_inv
  have e3 := l2.nil_inv
  subst e3; subst e2
  cases v1; cases v2
  have ha : args = #[.string ⟨⟨s⟩⟩, .string ⟨⟨p⟩⟩] := by
    rw [← Array.toList_inj]; exact e1
  subst ha
  rw [callsIn_wide]
  refine (hc ⟨⟨s⟩⟩ ⟨⟨p⟩⟩ M w (by show s.length < _; exact hs) hcell).mono fun e w' ⟨q1, q2⟩ => ?_
  subst q1; subst q2
  exact Post.of rfl (Same.refl _) r (.int _ _)
end
end Go.Ab
