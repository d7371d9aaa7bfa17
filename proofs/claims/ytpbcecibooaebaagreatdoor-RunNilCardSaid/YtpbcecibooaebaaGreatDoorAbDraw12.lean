/-
  Regions that draw are sound.
-/
import Derived.Test.YtpbcecibooaebaaGreatDoorAbDraw11
namespace Go.Ab
open Go

section
variable {E : Cx} {P : Program}

theorem AH.get_room (h : AH) (n b : Nat) : (h.room n).get b = h.get b := by
  unfold AH.room
  rw [withN_eq]; rfl

theorem AH.next_room (h : AH) (n : Nat) : (h.room n).next = h.next + n := by
  unfold AH.room
  rw [withN_eq]

theorem Rel.room {m : Mp} {h : AH} {hp : Hp} (r : Rel E m h hp) (n : Nat) : Rel E m (h.room n) hp ∧ Fr m h hp m (h.room n) hp := by
  have own : ∀ {k}, Owned m (h.room n) k → Owned m h k := fun ⟨b, x, cb, h1, h2⟩ => ⟨b, x, cb, by rw [AH.get_room] at h1; exact h1, h2⟩
  have pres : ∀ {k}, Present m (h.room n) k → Present m h k := fun ⟨b, x, cb, h1, h2⟩ => ⟨b, x, cb, by rw [AH.get_room] at h1; exact h1, h2⟩
  refine ⟨⟨fun b x hb => r.dom b x (by rw [AH.get_room] at hb; exact hb), fun b b' x x' cb cb' h1 h2 => r.inj b b' x x' cb cb' (by rw [AH.get_room] at h1; exact h1) (by rw [AH.get_room] at h2; exact h2),
    fun b hb => r.fresh b (by rw [AH.next_room] at hb; omega)⟩, Nat.le_refl _, fun _ _ _ => rfl, fun k _ => own, fun k _ => pres, Ext.refl m, by rw [AH.next_room]; omega, fun _ _ h _ => h⟩

theorem draw_ok (hP : P.follows .mixedOrders = true) : DrawOk E P := by
  intro call hk nt id ops nf l0 last m s s' a w ro hcd har hrun
  unfold cDraw at hcd
  split at hcd <;> first | (simp at hcd; done) | skip
  rename_i l hl
  simp only at hcd
  split at hcd <;> first | (simp at hcd; done) | skip
  rename_i hck
  simp only [Bool.and_eq_true] at hck
  obtain ⟨⟨⟨hdist, htemps⟩, hchain⟩, hedges⟩ := hck
  generalize hdi : dItems (Region.before ops).toList ((l.zipIdx.filter fun p => isAct p.1).map (·.2)) l.zipIdx 0 [] = r at hcd
  obtain ⟨ds, last'⟩ := r
  simp only [Option.some.injEq, AC.dreg.injEq] at hcd
  obtain ⟨rfl, rfl, rfl⟩ := hcd
  obtain ⟨K, O, k0, o0, hlast, hit⟩ := dItems_trace _ _ _ _ _ _ _ hdi
  unfold adreg dend at hrun
  simp only at hrun
  split at hrun <;> first | (simp at hrun; done) | skip
  rename_i dF hdF
  split at hrun <;> first | (simp at hrun; done) | skip
  rename_i h' hall hlay
  simp only [Option.some.injEq] at hrun
  obtain ⟨D, d0, dn, dst⟩ := adraw_trace _ _ _ _ _ hdF
  have hlen : ds.length = l.length := by rw [hit.len]; simp
  rw [hlen] at dn
  have hlast : last' = (O l.length).map (·.2) := by rw [hlast]; simp
  have g : Reg P nt ops l (Region.before ops).toList ds K O s.h.next call D :=
    ⟨⟨hit, k0, o0, dst, hdist, ⟨_, d0⟩⟩, rfl, hl, htemps, hchain, hedges, by unfold Hs; rw [dn]; exact hall⟩
  obtain ⟨hll, hget⟩ := mapO_get hl
  have hsz : ops.size = l.length := by rw [← hll]; simp
  let I := fun (listed : Array Bool) (a' : Act) (w' : World) => ∃ m' c' h' tm', Inv E P nt (Region.before ops).toList l K s.h.next D m s.h a w (fun j => listed.getD j false = true) m' c' h' tm' a' w'
  refine wpIn_region_any hP ?_
  refine any_order hedges I ?_ ?_ ops.size _ a _ (by simp) (closed_start _ _) (by
    unfold undone
    exact Nat.le_trans List.countP_le_length (by simp)) ?_
  · -- one operation more
    rintro listed a' w' hs hc ⟨m', c', h1, tm', hI⟩ j hj k hkk
    obtain ⟨oper, h2, h3, _⟩ := ready_spec hj
    obtain ⟨o, h4, h5⟩ := hget j oper (by simpa using h2)
    have hjl : j < listed.size := by rw [hs]; exact lt_of_some h2
    have hnS : ¬ listed.getD j false = true := by
      have e : listed.getD j false = listed.getD j true := by simp [Array.getD_eq_getD_getElem?, hjl]
      rw [e, h3]; simp
    refine hI.step hk g (Nat.le_refl _) h2 h4 h5 hnS (fun j i => hc j i) (fun i hi => ready_ahead hedges hc hj hi) (S' := fun i => (listed.setIfInBounds j true).getD i false = true) (fun i => ?_)
      (fun m2 c2 h2 tm2 a2 w2 hI2 => hkk a2 w2 ⟨m2, c2, h2, tm2, hI2⟩)
    rw [getD_set hjl]
    simp only [Bool.or_eq_true, decide_eq_true_eq]
    constructor
    · rintro (rfl | q)
      · exact .inr rfl
      · exact .inl q
    · rintro (q | rfl)
      · exact .inr q
      · exact .inl rfl
  · -- the end
    rintro listed a' w' hd ⟨m', c', h1, tm', hI⟩
    have hS : ∀ j, j < l.length → listed.getD j false = true := fun j hj => hd j (by rw [hsz]; exact hj)
    have hcut : Cut (actsOf l) (· < l.length) c' := hI.cut.congr (fun j hj => by
      obtain ⟨o, q1, _⟩ := mem_actsOf.1 hj
      have := lt_of_some (hp := l.toArray) (r := j) (by simpa using q1)
      have : j < l.length := by simpa using this
      exact ⟨fun _ => hS j this, fun _ => this⟩)
    have hat := g.run.at (Nat.le_refl _) hcut
    rw [hI.at'] at hat
    have hat : h1 = (D l.length).s.h := Option.some.inj hat
    subst hat
    have lt := bitAt_lt hedges
    rw [← dn, hlast] at hlay
    have hq : ∀ q ∈ (O l.length).map (·.2), ∃ i, OpenAt (Region.before ops).toList l (fun j => listed.getD j false = true) i ∧ s.h.next + K i = s.h.next + q ∧ findB (D l.length).pd q = some (blkOf l K s.h.next D i) := by
      intro q hq
      obtain ⟨⟨i, q'⟩, hm, rfl⟩ := List.mem_map.1 hq
      obtain ⟨k1, ⟨p, k2, k2'⟩, k3, k4⟩ := (g.run.it.open_iff g.run.o0 l.length (Nat.le_refl _) i q').1 hm
      refine ⟨i, ⟨⟨p, k2, k2'⟩, hS i k1, fun j o hj ho _ => ?_⟩, by simp only [k3], by simp only [k3]; exact g.run.pd (Nat.le_refl _) k1 k2 k2'⟩
      cases hb : bitAt (Region.before ops).toList j i with
      | false => rfl
      | true =>
        have hjl : j < l.length := by
          have := lt_of_some (hp := l.toArray) (r := j) (by simpa using hj)
          simpa using this
        rw [k4 j o (lt _ _ hb) hjl hj ho] at hb
        cases hb
    have hnd : ((O l.length).map (·.2)).Nodup := by
      have := g.run.it.open_nodup g.run.o0 (Nat.le_refl l.length) (fun _ => true)
      rw [List.filter_eq_self.2 (fun _ _ => rfl)] at this
      exact this
    obtain ⟨a1, a2, a3, a4, a5⟩ := lay_sound (nm := fun i => s.h.next + K i) hlay hnd hq hI.rel hI.flo
    have hfr : FR E m' (D l.length).s.tm a'.tmps := by
      intro t
      have := hI.tmps t
      by_cases hw : Wrote l (fun j => listed.getD j false = true) t
      · rw [hI.wrote t hw] at this; exact this
      · rw [hI.start t hw] at this
        rw [g.run.tm_start (Nat.le_refl _) (fun ⟨i, o, q1, q2, q3⟩ => hw ⟨i, o, hS i q1, q2, q3⟩)]
        exact this
    subst hrun
    rw [← dn]
    refine ⟨rfl, m', ⟨a1, hfr, hI.glob, hI.size⟩, hI.fr.laid (Nat.le_refl _) a3 a4 a5, hI.same, [], ?_, by simp, by simp⟩
    rw [hI.defers]; rfl
  · -- the start
    obtain ⟨r1, r2⟩ := har.rel.room (l.filter floats).length
    have hno : ∀ j, ¬ (Array.replicate ops.size false).getD j false = true := by
      intro j hj
      rw [Array.getD_eq_getD_getElem?, Array.getElem?_replicate] at hj
      split at hj <;> simp at hj
    have hat := g.run.at (Nat.zero_le _) (cut_zero (actsOf l))
    have e0 : (D 0).s = ⟨s.tm, s.h.room (l.filter floats).length⟩ := by rw [d0]
    rw [e0] at hat
    refine ⟨m, 0, s.h.room (l.filter floats).length, s.tm, ⟨⟨Nat.zero_le _, fun c' j _ => ⟨fun q => absurd q (hno j), fun q => absurd q (by omega)⟩⟩, hat, r1, r2, ⟨rfl, rfl, rfl⟩, har.glob, har.fr, har.size, rfl, ?_, ?_, ?_⟩⟩
    · rintro t ⟨i, o, q, _⟩
      exact absurd q (hno i)
    · intro t _
      rw [e0]
    · refine ⟨fun i hi => absurd hi.2.1 (hno i), fun i j cb cb' hi => absurd hi.2.1 (hno i), ?_⟩
      rintro i ⟨⟨o, q1, q2⟩, _⟩
      have hil : i < l.length := by
        have := lt_of_some (hp := l.toArray) (r := i) (by simpa using q1)
        simpa using this
      have h1 := g.run.it.lt q1 q2 hil (Nat.le_refl _)
      rw [g.run.it.count k0 l.length (Nat.le_refl _), List.take_length] at h1
      refine ⟨har.rel.fresh _ (by omega), ?_⟩
      rw [AH.next_room]
      omega

/-- all code is sound -/
theorem all_ok {F : Env} (hE : EnvOk E P F) (hP : P.follows .mixedOrders = true) (n : Nat) : CallOk E P (acall F (aexec F n)) := call_ok hE (code_ok hE (draw_ok hP) n n (Nat.le_refl _))
end
end Go.Ab
