/-
  Regions that draw: what an instruction hangs on.
-/
import Derived.Test.YtpbcecibooaebaaGreatDoorAbRun5
namespace Go.Ab
open Go

section
variable {tm tm' : FT}

theorem opds_congr {l : List Opd} (h : ∀ x ∈ l, opd x tm = opd x tm') : opds l tm = opds l tm' := by
  rw [opds_eq, opds_eq]
  exact List.map_congr_left h

theorem afill_congr : ∀ {ps : List ((Nat × Nat) × Opd)} {cells : List AV}, (∀ x ∈ ps.map (·.2), opd x tm = opd x tm') → afill tm ps cells = afill tm' ps cells := by
  intro ps
  induction ps with
  | nil => intro cells _; rfl
  | cons p ps ih =>
    intro cells h
    obtain ⟨⟨off, size⟩, x⟩ := p
    rw [afill_cons, afill_cons, h x (by simp)]
    have ih' := fun c => ih (cells := c) (fun y hy => h y (by simp only [List.map_cons, List.mem_cons]; exact .inr hy))
    split
    · exact ih' _
    · rfl

theorem boundOr_congr {x : Option Opd} (h : ∀ y ∈ x.toList, opd y tm = opd y tm') (y d : Nat) : boundOr x tm y d = boundOr x tm' y d := by
  cases x with
  | none => rfl
  | some z => simp only [boundOr, h z (by simp)]

theorem nought_congr {x : Option Opd} (h : ∀ y ∈ x.toList, opd y tm = opd y tm') : nought x tm = nought x tm' := by
  cases x with
  | none => rfl
  | some z => simp only [nought, h z (by simp)]

theorem pure_congr {i : AI} (h : ∀ x ∈ i.opds, opd x tm = opd x tm') (hp : AH) : i.pure.f tm hp = i.pure.f tm' hp := by
  cases i <;> simp only [AI.opds, List.mem_cons, List.not_mem_nil, or_false, forall_eq_or_imp, forall_eq, List.mem_append] at h <;>
    first
      | rfl
      | (simp only [AI.pure, h]; done)
      | (simp only [AI.pure]; rw [h.1, h.2]; done)
      | (simp only [AI.pure, h.1, h.2.1, h.2.2]; done)
      | (simp only [AI.pure]; rw [afill_congr h]; done)
      | (simp only [AI.pure]; rw [opds_congr (fun x hx => h x (.inl hx)), opds_congr (fun x hx => h x (.inr hx))]; done)
      | (have c1 := boundOr_congr (fun y hy => h.2 y (.inl hy)); have c2 := boundOr_congr (fun y hy => h.2 y (.inr hy)); simp only [AI.pure, asliceS, h.1, c1, c2]; done)
      | (have c1 := boundOr_congr (fun y hy => h.2 y (.inl hy)); have c2 := boundOr_congr (fun y hy => h.2 y (.inr (.inl hy))); have c3 := boundOr_congr (fun y hy => h.2 y (.inr (.inr hy)))
         have n1 := nought_congr (fun y hy => h.2 y (.inl hy)); have n2 := nought_congr (fun y hy => h.2 y (.inr (.inl hy))); have n3 := nought_congr (fun y hy => h.2 y (.inr (.inr hy)))
         simp only [AI.pure, asliceV, asliceA, cutSlice, cutArr, h.1, c1, c2, c3, n1, n2, n3]; done)

theorem newBlk_congr {i : AI} (h : ∀ x ∈ i.opds, opd x tm = opd x tm') (b : Nat) : i.newBlk.f b tm = i.newBlk.f b tm' := by
  cases i <;> simp only [AI.opds, List.mem_cons, List.not_mem_nil, or_false, forall_eq_or_imp, forall_eq, List.mem_append] at h <;>
    first
      | rfl
      | (simp only [AI.newBlk, h]; done)
      | (simp only [AI.newBlk, h.1, h.2]; done)
      | (simp only [AI.newBlk]; rw [afill_congr h]; done)

theorem run_congr {i : AI} (hact : i.act = true) (h : ∀ x ∈ i.opds, opd x tm = opd x tm') (call : Call) (hp : AH) : i.run.f call tm hp = i.run.f call tm' hp := by
  cases hn : i.isNew with
  | true => rw [run_isNew hn, run_isNew hn, newBlk_congr h]
  | false =>
    cases i <;> simp only [AI.opds, List.mem_cons, List.not_mem_nil, or_false, forall_eq_or_imp, forall_eq, List.mem_append] at h <;>
      first
        | (simp [AI.act] at hact; done)
        | (simp [AI.isNew] at hn; done)
        | rfl
        | (simp only [AI.run, h]; done)
        | (simp only [AI.run]; rw [h.1, h.2]; done)
        | (simp only [AI.run]; rw [h.1, opds_congr h.2]; done)

theorem gives_congr {i : AI} (h : ∀ x ∈ i.opds, opd x tm = opd x tm') (call : Call) (hp : AH) : i.gives call tm hp = i.gives call tm' hp := by
  unfold AI.gives
  cases hact : i.act with
  | true => exact run_congr hact h call hp
  | false => simp only [pure_congr h]

/-- those that do not read the heap tell the same at any -/
theorem pure_any {i : AI} (hact : i.act = false) (hr : i.reads = false) (hp hp' : AH) : i.pure.f tm hp = i.pure.f tm hp' := by
  cases i <;> first | rfl | (simp [AI.reads] at hr; done) | (simp [AI.act] at hact; done)
end
end Go.Ab
