/-
  The abstract machine's regions in their text's order.
-/
import Derived.Test.YtpbcecibooaebaaGreatDoorAbRun1
namespace Go.Ab
open Go

section
variable {E : Cx} {m m' m'' : Mp} {P : Program}

/-- the activation stands as the abstract frame says -/
structure AR (E : Cx) (m : Mp) (P : Program) (nt : Nat) (s : St) (a : Act) (w : World) : Prop where
  rel : Rel E m s.h w.heap
  fr : FR E m s.tm a.tmps
  glob : Globs P m
  size : a.tmps.size = nt

def markOf (r : Nat) : Deferred := { target := .collected r, args := #[] }

/-- what code leaves behind -/
structure Stp (E : Cx) (P : Program) (nt : Nat) (m m' : Mp) (s s' : St) (a a' : Act) (w w' : World) : Prop where
  ar : AR E m' P nt s' a' w'
  fr : Fr m s.h w.heap m' s'.h w'.heap
  same : Same w w'
  marks : ∃ rs : List Nat, a'.defers = rs.map markOf ++ a.defers ∧ rs.Nodup ∧ ∀ r ∈ rs, w.heap.size ≤ r ∧ w'.heap[r]? = some (.deferred (some [])) ∧ ¬ Present m' s'.h r

theorem Stp.refl {nt : Nat} {s : St} {a : Act} {w : World} (h : AR E m P nt s a w) : Stp E P nt m m s s a a w w :=
  ⟨h, Fr.refl .., Same.refl w, [], by simp, by simp, by simp⟩

theorem lt_of_some {α : Type} {hp : Array α} {r : Nat} {o : α} (h : hp[r]? = some o) : r < hp.size := by
  rcases Nat.lt_or_ge r hp.size with q | q
  · exact q
  · rw [Array.getElem?_eq_none q] at h; simp at h

theorem Stp.trans {nt : Nat} {s s1 s2 : St} {a a1 a2 : Act} {w w1 w2 : World} (h : Stp E P nt m m' s s1 a a1 w w1) (h' : Stp E P nt m' m'' s1 s2 a1 a2 w1 w2) : Stp E P nt m m'' s s2 a a2 w w2 := by
  obtain ⟨rs, e1, n1, p1⟩ := h.marks
  obtain ⟨qs, e2, n2, p2⟩ := h'.marks
  refine ⟨h'.ar, h.fr.trans h'.fr, h.same.trans h'.same, qs ++ rs, by rw [e2, e1]; simp, ?_, ?_⟩
  · refine List.nodup_append.2 ⟨n2, n1, fun x hx y hy e => ?_⟩
    subst e
    have h1 := (p2 x hx).1
    have h2 := lt_of_some (p1 x hy).2.1
    omega
  · intro r hr
    rcases List.mem_append.1 hr with hr | hr
    · obtain ⟨g1, g2, g3⟩ := p2 r hr
      exact ⟨Nat.le_trans h.fr.size g1, g2, g3⟩
    · obtain ⟨g1, g2, g3⟩ := p1 r hr
      have hlt := lt_of_some g2
      refine ⟨g1, ?_, fun hp => g3 (h'.fr.pres r hlt hp)⟩
      rw [h'.fr.keep r hlt (fun ho => g3 ho.present)]
      exact g2

theorem put_defers (a : Act) (d : Option Tmp) (x : Value) : (a.put d x).defers = a.defers := by cases d <;> rfl

theorem FR.aput {tm : FT} {a : Act} (h : FR E m tm a.tmps) {d : Option Nat} (hd : ∀ t, d = some t → t < a.tmps.size) {v : AV} {x : Value} (hv : VR E m v x) :
    FR E m (Ab.aput tm d v) (a.put d x).tmps := by
  cases d with
  | none => exact h
  | some t =>
    simp only [Ab.aput, withV_eq, Act.put]
    exact h.put (hd t rfl) hv

theorem put_size (a : Act) (d : Option Tmp) (x : Value) : (a.put d x).tmps.size = a.tmps.size := by cases d <;> simp [Act.put]

/-- an operation's step -/
theorem AR.step {nt : Nat} {s : St} {a : Act} {w w' : World} (h : AR E m P nt s a w) {d : Option Nat} (hd : ∀ t, d = some t → t < nt) {v : AV} {x : Value} {h' : AH}
    (hp : Post E m s.h w v h' x w') : ∃ m', Stp E P nt m m' s ⟨aput s.tm d v, h'⟩ a (a.put d x) w w' := by
  obtain ⟨m', g1, g2, g3, g4⟩ := hp
  refine ⟨m', ⟨g2, (h.fr.mono g3.ext).aput (by rw [h.size]; exact hd) g1, h.glob.mono g3.ext, by rw [put_size, h.size]⟩, g3, g4, [], by simp [put_defers], by simp, by simp⟩

theorem stepOn_some {d : Option Nat} {i : AI} {call : Call} {s s' : St} (h : (stepOn d i).f call s = some s') : ∃ v, i.gives call s.tm s.h = some (v, s'.h) ∧ s' = ⟨aput s.tm d v, s'.h⟩ := by
  obtain ⟨tm, hp⟩ := s
  unfold stepOn at h
  unfold AI.gives
  cases hact : i.act with
  | true =>
    rw [hact] at h
    simp only [stepTo] at h
    split at h <;> first | (simp at h; done) | skip
    rename_i v h' hv
    cases h
    exact ⟨v, by simp [hv], rfl⟩
  | false =>
    rw [hact] at h
    simp only [stepPure] at h
    split at h <;> first | (simp at h; done) | skip
    rename_i v hv
    cases h
    exact ⟨v, by simp [hv], rfl⟩

theorem wanted_of {ops : Array Oper} {o : Oper} {g : Option (Nat × Bool)} (hg : cGuard ops o.guard = some g) {tm : FT} {a : Act} (hf : FR E m tm a.tmps) {q : Bool} (hq : awants g tm = some q) :
    Region.wanted o (yielded ops a.tmps) = q := by
  unfold cGuard at hg
  unfold Region.wanted
  split at hg
  · rename_i hn
    cases hg
    rw [hn]
    simp only [awants, Option.some.injEq] at hq
    exact hq
  · rename_i j want hj
    split at hg <;> first | (simp at hg; done) | skip
    rename_i oj hoj
    split at hg <;> first | (simp at hg; done) | skip
    rename_i d hd
    cases hg
    rw [hj]
    simp only
    have hy : yielded ops a.tmps j = match a.tmps[d]? with
        | some (.bool b) => some b
        | _ => none := by
      unfold yielded
      simp only [hoj, Option.bind_some, hd]
      cases a.tmps[d]? with
      | none => rfl
      | some x => cases x <;> rfl
    rw [hy]
    have hv := hf d
    have hb : ∀ b, (a.tmps[d]? = some (.bool b)) ↔ a.tmps.getD d Go.undef = .bool b := by
      intro b
      rw [Array.getD_eq_getD_getElem?]
      cases a.tmps[d]? with
      | none => simp [Go.undef]
      | some x => simp
    simp only [awants] at hq
    split at hq
    · rename_i b hn
      rw [hn] at hv
      generalize hz : a.tmps.getD d Go.undef = z at hv
      cases hv
      rw [(hb b).2 hz]
      simp only [Option.some.injEq] at hq
      rw [← hq]
      cases b <;> cases want <;> rfl
    · simp at hq
    · simp at hq
    · rename_i h1 h2 h3
      simp only [Option.some.injEq] at hq
      rw [← hq]
      have : ∀ b, a.tmps[d]? ≠ some (.bool b) := by
        intro b hbb
        have := (hb b).1 hbb
        rw [this] at hv
        generalize nth tm d = z at *
        generalize hz : Value.bool b = y at hv
        cases hv <;> first | (simp at hz; done) | exact h1 _ rfl | exact h2 rfl | exact h3 _ rfl
      split
      · rename_i b hbb; exact absurd hbb (this b)
      · rfl

theorem cOper_some {nt : Nat} {ops : Array Oper} {o : Oper} {p : AO} (h : cOper P nt ops o = some p) :
    cOp P o.op = some p.op ∧ cGuard ops o.guard = some p.guard ∧ p.dst = o.dst ∧ ∀ t, o.dst = some t → t < nt := by
  unfold cOper at h
  split at h <;> first | (simp at h; done) | skip
  rename_i i g h1 h2
  split at h
  · rename_i d hd
    split at h <;> first | (simp at h; done) | skip
    rename_i hlt
    cases h
    exact ⟨h1, h2, hd.symm, fun t ht => by rw [hd] at ht; cases ht; exact hlt⟩
  · rename_i hd
    cases h
    exact ⟨h1, h2, hd.symm, fun t ht => by rw [hd] at ht; cases ht⟩

theorem astep_some {p : AO} {call : Call} {s s' : St} (h : (astep p).f call s = some s') :
    (awants p.guard s.tm = some false ∧ s' = ⟨aput s.tm p.dst undef, s.h⟩) ∨
      (awants p.guard s.tm = some true ∧ ∃ v, p.op.gives call s.tm s.h = some (v, s'.h) ∧ s' = ⟨aput s.tm p.dst v, s'.h⟩) := by
  obtain ⟨d, i, g⟩ := p
  cases g with
  | none => exact .inr ⟨rfl, stepOn_some h⟩
  | some g =>
    simp only [astep] at h
    split at h <;> first | (simp at h; done) | skip
    · rename_i hw
      cases h
      exact .inl ⟨hw, rfl⟩
    · rename_i hw
      exact .inr ⟨hw, stepOn_some h⟩

/-- a region in its text's order -/
theorem ops_sound {call : Call} (hk : CallOk E P call) {nt : Nat} {ops : Array Oper} {ro : Option Nat} {Q : Exit → Act → World → Prop} : ∀ (os : List Oper) (l : List AO) (k : Nat),
    (∀ i, ops[k + i]? = os[i]?) → mapO (cOper P nt ops) os = some l → ∀ {m : Mp} {s s' : St} {a : Act} {w : World}, AR E m P nt s a w → (aops l).f call s = some s' →
    (∀ m' a' w', Stp E P nt m m' s s' a a' w w' → Q .normal a' w') → wpOpsIn (fen ro) 0 P ops Q (List.range' k os.length) a w := by
  intro os
  induction os with
  | nil =>
    intro l k _ hl m s s' a w har hs hQ
    simp [mapO] at hl
    subst hl
    cases (show some s = some s' from hs)
    exact hQ m a w (Stp.refl har)
  | cons o os ih =>
    intro l k hops hl m s s' a w har hs hQ
    unfold mapO at hl
    split at hl <;> first | (simp at hl; done) | skip
    rename_i p l' hp hl'
    cases hl
    obtain ⟨c1, c2, c3, c4⟩ := cOper_some hp
    have e : (aops (p :: l')).f call s = match (astep p).f call s with
      | some s => (aops l').f call s
      | none => none := rfl
    rw [e] at hs
    split at hs <;> first | (simp at hs; done) | skip
    rename_i s1 hs1
    have hok : ops[k]? = some o := by have := hops 0; simpa using this
    have hops' : ∀ i, ops[k + 1 + i]? = os[i]? := fun i => by have := hops (i + 1); rw [show k + 1 + i = k + (i + 1) by omega]; simpa using this
    simp only [List.length_cons, List.range'_succ, wpOpsIn, hok]
    rcases astep_some hs1 with ⟨hw, rfl⟩ | ⟨hw, v, hv, he⟩
    · have := wanted_of (ops := ops) c2 har.fr hw
      rw [if_neg (by rw [this]; simp)]
      refine ⟨about_of (ro := ro) a w, ?_⟩
      have hpost : Post E m s.h w undef s.h Go.undef w := Post.of rfl (Same.refl w) har.rel .undef
      obtain ⟨m1, hst⟩ := har.step (d := o.dst) c4 hpost
      rw [c3] at hs
      exact ih l' (k + 1) hops' hl' hst.ar hs (fun m' a' w' h => hQ m' a' w' (hst.trans h))
    · have := wanted_of (ops := ops) c2 har.fr hw
      rw [if_pos this]
      refine op_sound hk har.glob c1 har.rel har.fr hv (fun x w' hpost => ?_)
      obtain ⟨m1, hst⟩ := har.step (d := o.dst) c4 hpost
      rw [he, c3] at hs
      exact ih l' (k + 1) hops' hl' hst.ar hs (fun m' a' w'' h => hQ m' a' w'' (hst.trans h))
end
end Go.Ab
