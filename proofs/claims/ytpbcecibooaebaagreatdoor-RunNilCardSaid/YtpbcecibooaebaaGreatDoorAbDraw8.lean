/-
  Regions that draw: what stands where in the run in their text's order.
-/
import Derived.Test.YtpbcecibooaebaaGreatDoorAbDraw7
namespace Go.Ab
open Go

/-! which acts have been done: so many of the first -/

def Cut (acts : List Nat) (S : Nat → Prop) (c : Nat) : Prop := c ≤ acts.length ∧ ∀ (cq j : Nat), acts[cq]? = some j → (S j ↔ cq < c)

theorem Cut.lo {acts : List Nat} {S : Nat → Prop} {c : Nat} (h : Cut acts S c) {p : Nat → Bool} (hp : ∀ a ∈ acts, p a = true → S a) : (acts.filter p).length ≤ c := by
  have e : acts = acts.take c ++ acts.drop c := (List.take_append_drop c acts).symm
  rw [e, List.filter_append]
  have : (acts.drop c).filter p = [] := by
    rw [List.filter_eq_nil_iff]
    intro a ha hpa
    obtain ⟨i, hi⟩ := List.mem_iff_getElem?.1 ha
    rw [List.getElem?_drop] at hi
    have := (h.2 _ _ hi).1 (hp a (List.mem_of_mem_drop ha) hpa)
    omega
  rw [this, List.append_nil]
  exact Nat.le_trans (List.length_filter_le _ _) (by simp; omega)

theorem Cut.hi {acts : List Nat} {S : Nat → Prop} {c : Nat} (h : Cut acts S c) {p : Nat → Bool} (hp : ∀ a ∈ acts, S a → p a = true) : c ≤ (acts.filter p).length := by
  have e : acts = acts.take c ++ acts.drop c := (List.take_append_drop c acts).symm
  rw [e, List.filter_append]
  have : (acts.take c).filter p = acts.take c := by
    rw [List.filter_eq_self]
    intro a ha
    obtain ⟨i, hi⟩ := List.mem_iff_getElem?.1 ha
    rw [List.getElem?_take] at hi
    split at hi
    · exact hp a (List.mem_of_mem_take ha) ((h.2 _ _ hi).2 (by assumption))
    · simp at hi
  rw [this, List.length_append]
  have := h.1
  simp; omega

theorem chained_spec {b : List Nat} : ∀ {acts : List Nat}, chained b acts = true → ∀ (c i j : Nat), acts[c]? = some i → acts[c + 1]? = some j → bitAt b j i = true := by
  intro acts
  induction acts with
  | nil => intro _ c i j h; simp at h
  | cons x acts ih =>
    intro h c i j hi hj
    cases acts with
    | nil => simp at hj
    | cons y acts =>
      simp only [chained, Bool.and_eq_true] at h
      cases c with
      | zero =>
        simp at hi hj
        subst hi; subst hj
        exact h.1
      | succ c => exact ih h.2 c i j (by simpa using hi) (by simpa using hj)

/-- a closed set and its acts -/
theorem Cut.of_closed {b acts : List Nat} (hch : chained b acts = true) {S : Nat → Prop} [DecidablePred S] (hs : ∀ j i, S j → bitAt b j i = true → S i) : ∃ c, Cut acts S c := by
  have down : ∀ (c j : Nat), acts[c]? = some j → S j → ∀ cq j', cq ≤ c → acts[cq]? = some j' → S j' := by
    intro c
    induction c with
    | zero => intro j h hj cq j' hc h'; have : cq = 0 := by omega
              subst this; rw [h] at h'; cases h'; exact hj
    | succ c ih =>
      intro j h hj cq j' hc h'
      by_cases e : cq = c + 1
      · subst e; rw [h] at h'; cases h'; exact hj
      · have hlt := lt_of_some (hp := acts.toArray) (r := c + 1) (by simpa using h)
        have hi : acts[c]? = some (acts[c]'(by simp at hlt; omega)) := by simp
        exact ih _ hi (hs _ _ hj (chained_spec hch c _ _ hi h)) cq j' (by omega) h'
  -- the first that is not in it
  have : ∀ n, n ≤ acts.length → (∃ c, c ≤ n ∧ ∀ (cq j : Nat), cq < n → acts[cq]? = some j → (S j ↔ cq < c)) := by
    intro n
    induction n with
    | zero => intro _; exact ⟨0, Nat.le_refl _, fun cq j h => by omega⟩
    | succ n ih =>
      intro hn
      obtain ⟨c, h1, h2⟩ := ih (by omega)
      have hi : acts[n]? = some acts[n] := by simp
      by_cases hS : S acts[n]
      · refine ⟨n + 1, Nat.le_refl _, fun cq j hc hj => ⟨fun _ => hc, fun _ => down n _ hi hS cq j (by omega) hj⟩⟩
      · refine ⟨c, by omega, fun cq j hc hj => ?_⟩
        by_cases e : cq = n
        · subst e
          rw [hi] at hj; cases hj
          exact ⟨fun q => absurd q hS, fun q => absurd q (by omega)⟩
        · exact h2 cq j (by omega) hj
  obtain ⟨c, h1, h2⟩ := this acts.length (Nat.le_refl _)
  refine ⟨c, h1, fun cq j hj => h2 cq j ?_ hj⟩
  have := lt_of_some (hp := acts.toArray) (r := cq) (by simpa using hj)
  simpa using this

theorem Cut.unique {acts : List Nat} {S : Nat → Prop} {c cq : Nat} (h : Cut acts S c) (h' : Cut acts S cq) : c = cq := by
  rcases Nat.lt_trichotomy c cq with q | q | q
  · have hi : acts[c]? = some (acts[c]'(by have := h'.1; omega)) := by simp
    have := (h.2 _ _ hi).1 ((h'.2 _ _ hi).2 q)
    omega
  · exact q
  · have hi : acts[cq]? = some (acts[cq]'(by have := h.1; omega)) := by simp
    have := (h'.2 _ _ hi).1 ((h.2 _ _ hi).2 q)
    omega

theorem Cut.congr {acts : List Nat} {S S' : Nat → Prop} {c : Nat} (h : Cut acts S c) (e : ∀ a ∈ acts, S' a ↔ S a) : Cut acts S' c :=
  ⟨h.1, fun cq j hj => (e j (List.mem_of_getElem? hj)).trans (h.2 cq j hj)⟩

/-- one act more -/
theorem Cut.next {acts : List Nat} (hn : acts.Nodup) {S S' : Nat → Prop} {c j : Nat} (h : Cut acts S c) (hj : acts[c]? = some j) (e : ∀ i, S' i ↔ S i ∨ i = j) : Cut acts S' (c + 1) := by
  have hlt : c < acts.length := by
    have := lt_of_some (hp := acts.toArray) (r := c) (by simpa using hj)
    simpa using this
  refine ⟨hlt, fun cq i hi => ?_⟩
  rw [e, h.2 cq i hi]
  constructor
  · rintro (q | q)
    · omega
    · subst q
      have := (List.getElem?_inj (i := c) (j := cq) hlt hn).1 (hj.trans hi.symm)
      omega
  · intro q
    by_cases z : cq = c
    · subst z; rw [hj] at hi; cases hi; exact .inr rfl
    · exact .inl (by omega)

/-! the acts of a region -/

def actsOf (l : List AO) : List Nat := (l.zipIdx.filter fun p => isAct p.1).map (·.2)

theorem mem_actsOf {l : List AO} {j : Nat} : j ∈ actsOf l ↔ ∃ o, l[j]? = some o ∧ isAct o = true := by
  unfold actsOf
  simp only [List.mem_map, List.mem_filter, Prod.exists]
  constructor
  · rintro ⟨o, k, ⟨h1, h2⟩, rfl⟩
    exact ⟨o, by simpa [List.mem_zipIdx_iff_getElem?] using h1, h2⟩
  · rintro ⟨o, h1, h2⟩
    exact ⟨o, j, ⟨by simpa [List.mem_zipIdx_iff_getElem?] using h1, h2⟩, rfl⟩

theorem actsOf_sorted (l : List AO) : (actsOf l).Pairwise (· < ·) := by
  unfold actsOf
  rw [List.pairwise_map]
  refine List.Pairwise.filter _ ?_
  have : (l.zipIdx.map (·.2)).Pairwise (· < ·) := by
    rw [List.zipIdx_map_snd]
    exact List.pairwise_lt_range'
  exact List.pairwise_map.1 this

theorem actsOf_nodup (l : List AO) : (actsOf l).Nodup := (actsOf_sorted l).imp (fun h => Nat.ne_of_lt h)

/-! floating blocks: their numbers, and which stand open -/

section
variable {b : List Nat} {l : List AO} {ds : List DI} {K : Nat → Nat} {O : Nat → List (Nat × Nat)}

theorem zip_get {l : List AO} {i : Nat} {o : AO} (h : l[i]? = some o) : l.zipIdx[i]? = some (o, i) := by
  simp [h]

theorem Items.step (t : Items b (actsOf l) l.zipIdx ds K O) {i : Nat} {o : AO} (h : l[i]? = some o) :
    (floats o = true ∧ K (i + 1) = K i + 1 ∧ O (i + 1) = (i, K i) :: O i) ∨
    (floats o = false ∧ o.op.act = true ∧ K (i + 1) = K i ∧ O (i + 1) = (O i).filter fun f => !bitAt b i f.1) ∨
    (floats o = false ∧ o.op.act = false ∧ K (i + 1) = K i ∧ O (i + 1) = O i) := by
  have hz := zip_get h
  cases hf : floats o with
  | true => exact .inl ⟨rfl, (t.new i o i hz hf).2⟩
  | false =>
    cases ha : o.op.act with
    | true => exact .inr (.inl ⟨rfl, rfl, (t.act i o i hz hf ha).2⟩)
    | false =>
      cases hr : o.op.reads with
      | true => exact .inr (.inr ⟨rfl, rfl, (t.read i o i hz hf ha hr).2⟩)
      | false => exact .inr (.inr ⟨rfl, rfl, (t.op i o i hz hf ha hr).2⟩)

theorem Items.mono (t : Items b (actsOf l) l.zipIdx ds K O) {i : Nat} : ∀ {j : Nat}, i ≤ j → j ≤ l.length → K i ≤ K j := by
  intro j
  induction j with
  | zero => intro h _; have : i = 0 := by omega
            subst this; exact Nat.le_refl _
  | succ j ih =>
    intro h hj
    by_cases e : i = j + 1
    · subst e; exact Nat.le_refl _
    · have := ih (by omega) (by omega)
      have hl : l[j]? = some (l[j]'(by omega)) := by simp
      rcases t.step hl with ⟨_, h1, _⟩ | ⟨_, _, h1, _⟩ | ⟨_, _, h1, _⟩ <;> omega

/-- later ones have greater numbers -/
theorem Items.lt (t : Items b (actsOf l) l.zipIdx ds K O) {i j : Nat} {o : AO} (hi : l[i]? = some o) (hf : floats o = true) (h : i < j) (hj : j ≤ l.length) : K i < K j := by
  have := t.mono (i := i + 1) (j := j) h hj
  rcases t.step hi with ⟨_, h1, _⟩ | ⟨h1, _⟩ | ⟨h1, _⟩
  · omega
  · rw [hf] at h1; cases h1
  · rw [hf] at h1; cases h1

theorem Items.inj (t : Items b (actsOf l) l.zipIdx ds K O) {i j : Nat} {o p : AO} (hi : l[i]? = some o) (hj : l[j]? = some p) (ho : floats o = true) (hp : floats p = true) (e : K i = K j) : i = j := by
  have li : i < l.length := by have := lt_of_some (hp := l.toArray) (r := i) (by simpa using hi); simpa using this
  have lj : j < l.length := by have := lt_of_some (hp := l.toArray) (r := j) (by simpa using hj); simpa using this
  rcases Nat.lt_trichotomy i j with q | q | q
  · have := t.lt hi ho q (by omega); omega
  · exact q
  · have := t.lt hj hp q (by omega); omega

theorem Items.count (t : Items b (actsOf l) l.zipIdx ds K O) (h0 : K 0 = 0) : ∀ i, i ≤ l.length → K i = ((l.take i).filter floats).length := by
  intro i
  induction i with
  | zero => intro _; simp [h0]
  | succ i ih =>
    intro hi
    have hl : l[i]? = some (l[i]'(by omega)) := by simp
    rw [List.take_add_one, hl, Option.toList_some, List.filter_append, List.length_append, ← ih (by omega)]
    rcases t.step hl with ⟨h1, h2, _⟩ | ⟨h1, _, h2, _⟩ | ⟨h1, _, h2, _⟩
    · rw [h2, List.filter_cons_of_pos h1]; rfl
    · rw [h2, List.filter_cons_of_neg (by rw [h1]; simp)]; rfl
    · rw [h2, List.filter_cons_of_neg (by rw [h1]; simp)]; rfl

/-- what stands open ahead of the i-th -/
theorem Items.open_iff (t : Items b (actsOf l) l.zipIdx ds K O) (h0 : O 0 = []) : ∀ i, i ≤ l.length → ∀ f q, (f, q) ∈ O i ↔
    (f < i ∧ (∃ o, l[f]? = some o ∧ floats o = true) ∧ q = K f ∧ ∀ j o, f < j → j < i → l[j]? = some o → isAct o = true → bitAt b j f = false) := by
  intro i
  induction i with
  | zero => intro _ f q; rw [h0]; constructor
            · intro h; simp at h
            · intro h; omega
  | succ i ih =>
    intro hi f q
    have hl : l[i]? = some (l[i]'(by omega)) := by simp
    have ih := ih (by omega) f q
    rcases t.step hl with ⟨h1, _, h2⟩ | ⟨h1, h3, _, h2⟩ | ⟨h1, h3, _, h2⟩
    · rw [h2, List.mem_cons, ih]
      constructor
      · rintro (e | ⟨g1, g2, g3, g4⟩)
        · cases e
          exact ⟨by omega, ⟨_, hl, h1⟩, rfl, fun j o a c => by omega⟩
        · refine ⟨by omega, g2, g3, fun j o a c hj ho => ?_⟩
          by_cases e : j = i
          · subst e
            rw [hl] at hj; cases hj
            unfold isAct at ho
            rw [h1] at ho; simp at ho
          · exact g4 j o a (by omega) hj ho
      · rintro ⟨g1, g2, g3, g4⟩
        by_cases e : f = i
        · subst e; exact .inl (by rw [g3])
        · exact .inr ⟨by omega, g2, g3, fun j o a c => g4 j o a (by omega)⟩
    · rw [h2, List.mem_filter, ih]
      have hact : isAct l[i] = true := by unfold isAct; rw [h1, h3]; rfl
      constructor
      · rintro ⟨⟨g1, g2, g3, g4⟩, g5⟩
        refine ⟨by omega, g2, g3, fun j o a c hj ho => ?_⟩
        by_cases e : j = i
        · subst e; simpa using g5
        · exact g4 j o a (by omega) hj ho
      · rintro ⟨g1, ⟨o, g2, g2'⟩, g3, g4⟩
        have hne : f ≠ i := by
          rintro rfl
          rw [hl] at g2; cases g2
          rw [h1] at g2'; cases g2'
        refine ⟨⟨by omega, ⟨o, g2, g2'⟩, g3, fun j o a c => g4 j o a (by omega)⟩, ?_⟩
        have := g4 i _ (by omega) (by omega) hl hact
        simp [this]
    · rw [h2, ih]
      constructor
      · rintro ⟨g1, g2, g3, g4⟩
        refine ⟨by omega, g2, g3, fun j o a c hj ho => ?_⟩
        by_cases e : j = i
        · subst e
          rw [hl] at hj; cases hj
          unfold isAct at ho
          rw [h3] at ho; simp at ho
        · exact g4 j o a (by omega) hj ho
      · rintro ⟨g1, ⟨o, g2, g2'⟩, g3, g4⟩
        have hne : f ≠ i := by
          rintro rfl
          rw [hl] at g2; cases g2
          rw [h1] at g2'; cases g2'
        exact ⟨by omega, ⟨o, g2, g2'⟩, g3, fun j o a c => g4 j o a (by omega)⟩

theorem Items.open_sorted (t : Items b (actsOf l) l.zipIdx ds K O) (h0 : O 0 = []) : ∀ i, i ≤ l.length → (O i).Pairwise (fun x y => x.2 ≠ y.2) := by
  intro i
  induction i with
  | zero => intro _; rw [h0]; exact List.Pairwise.nil
  | succ i ih =>
    intro hi
    have hl : l[i]? = some (l[i]'(by omega)) := by simp
    have ih := ih (by omega)
    rcases t.step hl with ⟨h1, _, h2⟩ | ⟨h1, h3, _, h2⟩ | ⟨h1, h3, _, h2⟩
    · rw [h2]
      refine List.Pairwise.cons ?_ ih
      rintro ⟨f, q⟩ hm
      obtain ⟨g1, ⟨o, g2, g2'⟩, g3, _⟩ := (t.open_iff h0 i (by omega) f q).1 hm
      have := t.lt g2 g2' g1 (by omega)
      simp only
      omega
    · rw [h2]; exact ih.filter _
    · rw [h2]; exact ih

theorem Items.open_nodup (t : Items b (actsOf l) l.zipIdx ds K O) (h0 : O 0 = []) {i : Nat} (hi : i ≤ l.length) (p : Nat × Nat → Bool) : (((O i).filter p).map (·.2)).Nodup := by
  rw [List.nodup_iff_pairwise_ne, List.pairwise_map]
  exact (t.open_sorted h0 i hi).filter _
end
end Go.Ab
