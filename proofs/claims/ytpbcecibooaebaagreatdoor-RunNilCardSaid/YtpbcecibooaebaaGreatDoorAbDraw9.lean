/-
  Regions that draw: temporaries, heaps, blocks and readings of the run in their text's order.
-/
import Derived.Test.YtpbcecibooaebaaGreatDoorAbDraw8
namespace Go.Ab
open Go

structure Run (b : List Nat) (l : List AO) (ds : List DI) (K : Nat → Nat) (O : Nat → List (Nat × Nat)) (base : Nat) (call : Call) (D : Nat → DS) : Prop where
  it : Items b (actsOf l) l.zipIdx ds K O
  k0 : K 0 = 0
  o0 : O 0 = []
  st : ∀ (k : Nat) p, ds[k]? = some p → (ditem p).f base call (D k) = some (D (k + 1))
  dist : distinct (l.filterMap (·.dst)) = true
  start : ∃ s, D 0 = ⟨s, [], [], [s.h]⟩

section
variable {b : List Nat} {l : List AO} {ds : List DI} {K : Nat → Nat} {O : Nat → List (Nat × Nat)} {base : Nat} {call : Call} {D : Nat → DS}

def lows (b : List Nat) (l : List AO) (k : Nat) : Nat := ((actsOf l).filter fun c => bitAt b k c).length
def highs (b : List Nat) (l : List AO) (k : Nat) : Nat := ((actsOf l).filter fun c => !bitAt b c k).length

def StepNew (K : Nat → Nat) (base : Nat) (D : Nat → DS) (k : Nat) (o : AO) : Prop :=
  ∃ v x, o.op.newBlk.f (base + K k) (D k).s.tm = some (v, x) ∧ D (k + 1) = ⟨⟨aput (D k).s.tm o.dst v, (D k).s.h⟩, (K k, x) :: (D k).pd, (D k).ls, (D k).hs⟩

def StepAct (b : List Nat) (O : Nat → List (Nat × Nat)) (base : Nat) (call : Call) (D : Nat → DS) (k : Nat) (o : AO) : Prop :=
  ∃ h1 s, lay base (D k).pd (((O k).filter fun f => bitAt b k f.1).map (·.2)) (D k).s.h = some h1 ∧ (astep o).f call ⟨(D k).s.tm, h1⟩ = some s ∧
    D (k + 1) = ⟨s, (D k).pd, (D k).ls, s.h :: (D k).hs⟩

def StepOp (call : Call) (D : Nat → DS) (k : Nat) (o : AO) : Prop := ∃ s, (astep o).f call (D k).s = some s ∧ D (k + 1) = ⟨s, (D k).pd, (D k).ls, (D k).hs⟩

def StepRead (b : List Nat) (l : List AO) (call : Call) (D : Nat → DS) (k : Nat) (o : AO) : Prop :=
  (lows b l k = highs b l k ∧ StepOp call D k o) ∨
  (awants o.guard (D k).s.tm = some false ∧ D (k + 1) = ⟨⟨aput (D k).s.tm o.dst undef, (D k).s.h⟩, (D k).pd, (D k).ls, (D k).hs⟩) ∨
  (awants o.guard (D k).s.tm = some true ∧ ∃ v, o.op.pure.f (D k).s.tm (D k).s.h = some v ∧
    D (k + 1) = ⟨⟨aput (D k).s.tm o.dst v, (D k).s.h⟩, (D k).pd, ⟨lows b l k, highs b l k, o.op.pure.f (D k).s.tm, v⟩ :: (D k).ls, (D k).hs⟩)

theorem Run.step (r : Run b l ds K O base call D) {k : Nat} {o : AO} (h : l[k]? = some o) :
    (floats o = true ∧ StepNew K base D k o) ∨ (floats o = false ∧ o.op.act = true ∧ StepAct b O base call D k o) ∨
    (floats o = false ∧ o.op.act = false ∧ o.op.reads = true ∧ StepRead b l call D k o) ∨ (floats o = false ∧ o.op.act = false ∧ o.op.reads = false ∧ StepOp call D k o) := by
  have hz := zip_get h
  cases hf : floats o with
  | true => exact .inl ⟨rfl, new_item (r.st _ _ (r.it.new k o k hz hf).1)⟩
  | false =>
    refine .inr ?_
    cases ha : o.op.act with
    | true => exact .inl ⟨rfl, rfl, act_item (r.st _ _ (r.it.act k o k hz hf ha).1)⟩
    | false =>
      refine .inr ?_
      cases hr : o.op.reads with
      | true => exact .inl ⟨rfl, rfl, rfl, read_item (r.st _ _ (r.it.read k o k hz hf ha hr).1)⟩
      | false => exact .inr ⟨rfl, rfl, rfl, op_item (r.st _ _ (r.it.op k o k hz hf ha hr).1)⟩

theorem Run.tm1 (r : Run b l ds K O base call D) {k : Nat} {o : AO} (h : l[k]? = some o) : ∃ v, (D (k + 1)).s.tm = aput (D k).s.tm o.dst v := by
  have op : StepOp call D k o → ∃ v, (D (k + 1)).s.tm = aput (D k).s.tm o.dst v := by
    rintro ⟨s, h1, h2⟩
    obtain ⟨v, hv⟩ := astep_tm h1
    exact ⟨v, by rw [h2]; exact hv⟩
  rcases r.step h with ⟨_, v, x, _, h2⟩ | ⟨_, _, h1, s, _, h2, h3⟩ | ⟨_, _, _, hr⟩ | ⟨_, _, _, h1⟩
  · exact ⟨v, by rw [h2]⟩
  · obtain ⟨v, hv⟩ := astep_tm h2
    exact ⟨v, by rw [h3]; exact hv⟩
  · rcases hr with ⟨_, h1⟩ | ⟨_, h1⟩ | ⟨_, v, _, h1⟩
    · exact op h1
    · exact ⟨_, by rw [h1]⟩
    · exact ⟨v, by rw [h1]⟩
  · exact op h1

/-- which temporaries have been written -/
def Wrote (l : List AO) (S : Nat → Prop) (t : Nat) : Prop := ∃ i o, S i ∧ l[i]? = some o ∧ o.dst = some t

theorem Run.tm_keep (r : Run b l ds K O base call D) {k t : Nat} : ∀ {kk : Nat}, k ≤ kk → kk ≤ l.length → (∀ i o, k ≤ i → i < kk → l[i]? = some o → o.dst ≠ some t) → nth (D kk).s.tm t = nth (D k).s.tm t := by
  intro kk
  induction kk with
  | zero => intro h _ _; have : k = 0 := by omega
            subst this; rfl
  | succ kk ih =>
    intro h hk hw
    by_cases e : k = kk + 1
    · subst e; rfl
    · have hl : l[kk]? = some (l[kk]'(by omega)) := by simp
      obtain ⟨v, hv⟩ := r.tm1 hl
      rw [hv, nth_aput, if_neg (hw kk _ (by omega) (by omega) hl)]
      exact ih (by omega) (by omega) (fun i o a c => hw i o a (by omega))

theorem Run.tm_wrote (r : Run b l ds K O base call D) {k t : Nat} (hk : k ≤ l.length) (hw : Wrote l (· < k) t) : nth (D k).s.tm t = nth (D l.length).s.tm t := by
  obtain ⟨i, o, h1, h2, h3⟩ := hw
  refine (r.tm_keep hk (Nat.le_refl _) (fun j p a c hj hp => ?_)).symm
  have := distinct_spec r.dist i j o p t h2 hj h3 hp
  have h1 : i < k := h1
  omega

theorem Run.tm_start (r : Run b l ds K O base call D) {k t : Nat} (hk : k ≤ l.length) (hw : ¬ Wrote l (· < k) t) : nth (D k).s.tm t = nth (D 0).s.tm t :=
  r.tm_keep (Nat.zero_le _) hk (fun i o _ c hi ho => hw ⟨i, o, c, hi, ho⟩)

/-- heaps -/
theorem Run.heap1 (r : Run b l ds K O base call D) {k : Nat} {o : AO} (h : l[k]? = some o) :
    (isAct o = true ∧ (D (k + 1)).hs = (D (k + 1)).s.h :: (D k).hs) ∨ (isAct o = false ∧ (D (k + 1)).s.h = (D k).s.h ∧ (D (k + 1)).hs = (D k).hs) := by
  rcases r.step h with ⟨hf, v, x, _, h2⟩ | ⟨hf, ha, h1, s, _, h2, h3⟩ | ⟨hf, ha, _, hr⟩ | ⟨hf, ha, _, s, h1, h2⟩
  · exact .inr ⟨by simp [isAct, hf], by rw [h2], by rw [h2]⟩
  · exact .inl ⟨by simp [isAct, hf, ha], by rw [h3]⟩
  · refine .inr ⟨by simp [isAct, ha], ?_⟩
    rcases hr with ⟨_, s, h1, h2⟩ | ⟨_, h1⟩ | ⟨_, v, _, h1⟩
    · rw [h2]; exact ⟨astep_pure ha h1, rfl⟩
    · rw [h1]; exact ⟨rfl, rfl⟩
    · rw [h1]; exact ⟨rfl, rfl⟩
  · refine .inr ⟨by simp [isAct, ha], ?_⟩
    rw [h2]; exact ⟨astep_pure ha h1, rfl⟩

theorem cut_zero (acts : List Nat) : Cut acts (· < 0) 0 := ⟨Nat.zero_le _, fun c' j _ => by omega⟩

theorem Cut.succ_act {k : Nat} {o : AO} (h : l[k]? = some o) (ha : isAct o = true) {c : Nat} (hc : Cut (actsOf l) (· < k) c) : (actsOf l)[c]? = some k ∧ Cut (actsOf l) (· < k + 1) (c + 1) := by
  obtain ⟨c', hc'⟩ := List.mem_iff_getElem?.1 (mem_actsOf.2 ⟨o, h, ha⟩)
  have hs := actsOf_sorted l
  have hlt : c' < (actsOf l).length := by
    have := lt_of_some (hp := (actsOf l).toArray) (r := c') (by simpa using hc')
    simpa using this
  have h1 : ¬ c' < c := fun q => by have := (hc.2 c' k hc').2 q; omega
  have h2 : c' = c := by
    rcases Nat.lt_or_ge c c' with q | q
    · have hi : (actsOf l)[c]? = some ((actsOf l)[c]'(by omega)) := by simp
      have e : (actsOf l)[c'] = k := by
        rw [List.getElem?_eq_getElem hlt] at hc'
        exact Option.some.inj hc'
      have := List.pairwise_iff_getElem.1 hs c c' (by omega) hlt q
      rw [e] at this
      have := (hc.2 _ _ hi).1 this
      omega
    · omega
  subst h2
  exact ⟨hc', hc.next (actsOf_nodup l) hc' (fun i => by show i < k + 1 ↔ i < k ∨ i = k; omega)⟩

theorem Cut.succ_not {k : Nat} {o : AO} (h : l[k]? = some o) (ha : isAct o = false) {c : Nat} (hc : Cut (actsOf l) (· < k) c) : Cut (actsOf l) (· < k + 1) c :=
  hc.congr (fun a hm => by
    obtain ⟨p, h1, h2⟩ := mem_actsOf.1 hm
    have : a ≠ k := by rintro rfl; rw [h] at h1; cases h1; rw [ha] at h2; cases h2
    show a < k + 1 ↔ a < k
    omega)

theorem Run.heap (r : Run b l ds K O base call D) : ∀ k, k ≤ l.length → ∃ c, Cut (actsOf l) (· < k) c ∧ (D k).hs.length = c + 1 ∧ (D k).hs[0]? = some (D k).s.h := by
  intro k
  induction k with
  | zero =>
    intro _
    obtain ⟨s, hs⟩ := r.start
    exact ⟨0, cut_zero _, by rw [hs]; rfl, by rw [hs]; rfl⟩
  | succ k ih =>
    intro hk
    obtain ⟨c, h1, h2, h3⟩ := ih (by omega)
    have hl : l[k]? = some (l[k]'(by omega)) := by simp
    rcases r.heap1 hl with ⟨ha, hh⟩ | ⟨ha, hh, hh'⟩
    · exact ⟨c + 1, (Cut.succ_act hl ha h1).2, by rw [hh]; simp [h2], by rw [hh]; rfl⟩
    · exact ⟨c, Cut.succ_not hl ha h1, by rw [hh', h2], by rw [hh', hh]; exact h3⟩

theorem Run.hs_suffix (r : Run b l ds K O base call D) {k : Nat} : ∀ {kk : Nat}, k ≤ kk → kk ≤ l.length → ∃ pre, (D kk).hs = pre ++ (D k).hs := by
  intro kk
  induction kk with
  | zero => intro h _; have : k = 0 := by omega
            subst this; exact ⟨[], rfl⟩
  | succ kk ih =>
    intro h hk
    by_cases e : k = kk + 1
    · subst e; exact ⟨[], rfl⟩
    · obtain ⟨pre, hp⟩ := ih (by omega) (by omega)
      have hl : l[kk]? = some (l[kk]'(by omega)) := by simp
      rcases r.heap1 hl with ⟨_, hh⟩ | ⟨_, _, hh⟩
      · exact ⟨_ :: pre, by rw [hh, hp]; rfl⟩
      · exact ⟨pre, by rw [hh, hp]⟩

/-- the heap behind so many acts -/
def Hs (l : List AO) (D : Nat → DS) : List AH := (D l.length).hs.reverse

theorem Run.at (r : Run b l ds K O base call D) {k c : Nat} (hk : k ≤ l.length) (hc : Cut (actsOf l) (· < k) c) : (Hs l D)[c]? = some (D k).s.h := by
  obtain ⟨c', h1, h2, h3⟩ := r.heap k hk
  have := hc.unique h1
  subst this
  obtain ⟨pre, hp⟩ := r.hs_suffix hk (Nat.le_refl _)
  unfold Hs
  rw [hp, List.reverse_append, List.getElem?_append_left (by simp [h2]), List.getElem?_reverse (by omega), h2]
  simpa using h3

/-- the block that a floating instruction makes -/
noncomputable def blkOf (l : List AO) (K : Nat → Nat) (base : Nat) (D : Nat → DS) (i : Nat) : Blk :=
  match l[i]? with
  | some o => match o.op.newBlk.f (base + K i) (D i).s.tm with
    | some (_, x) => x
    | none => .iter [] 0
  | none => .iter [] 0

theorem Run.new (r : Run b l ds K O base call D) {i : Nat} {o : AO} (h : l[i]? = some o) (hf : floats o = true) :
    ∃ v, o.op.newBlk.f (base + K i) (D i).s.tm = some (v, blkOf l K base D i) ∧
      D (i + 1) = ⟨⟨aput (D i).s.tm o.dst v, (D i).s.h⟩, (K i, blkOf l K base D i) :: (D i).pd, (D i).ls, (D i).hs⟩ := by
  rcases r.step h with ⟨_, v, x, h1, h2⟩ | ⟨h1, _⟩ | ⟨h1, _⟩ | ⟨h1, _⟩
  · have e : blkOf l K base D i = x := by simp only [blkOf, h, h1]
    rw [e]; exact ⟨v, h1, h2⟩
  · rw [hf] at h1; cases h1
  · rw [hf] at h1; cases h1
  · rw [hf] at h1; cases h1

theorem Run.pd1 (r : Run b l ds K O base call D) {k : Nat} {o : AO} (h : l[k]? = some o) (hf : floats o = false) : (D (k + 1)).pd = (D k).pd := by
  rcases r.step h with ⟨h1, _⟩ | ⟨_, _, h1, s, _, h2, h3⟩ | ⟨_, _, _, hr⟩ | ⟨_, _, _, s, h1, h2⟩
  · rw [hf] at h1; cases h1
  · rw [h3]
  · rcases hr with ⟨_, s, h1, h2⟩ | ⟨_, h1⟩ | ⟨_, v, _, h1⟩
    · rw [h2]
    · rw [h1]
    · rw [h1]
  · rw [h2]

theorem findB_cons (i j : Nat) (x : Blk) (l : List (Nat × Blk)) : findB ((j, x) :: l) i = if j = i then some x else findB l i := by
  have e : findB ((j, x) :: l) i = match eqN j i with
    | true => some x
    | false => findB l i := rfl
  rw [e, eqN_eq]
  by_cases h : j = i
  · simp [h]
  · simp [h]

theorem Run.pd (r : Run b l ds K O base call D) : ∀ {k : Nat}, k ≤ l.length → ∀ {i : Nat} {o : AO}, i < k → l[i]? = some o → floats o = true → findB (D k).pd (K i) = some (blkOf l K base D i) := by
  intro k
  induction k with
  | zero => intro _ i o h; omega
  | succ k ih =>
    intro hk i o hi hl hf
    have hlk : l[k]? = some (l[k]'(by omega)) := by simp
    by_cases e : i = k
    · subst e
      obtain ⟨v, _, h2⟩ := r.new hl hf
      rw [h2, findB_cons, if_pos rfl]
    · have ih := ih (by omega) (i := i) (by omega) hl hf
      cases hfk : floats l[k] with
      | true =>
        obtain ⟨v, _, h2⟩ := r.new hlk hfk
        rw [h2, findB_cons, if_neg ?_]
        · exact ih
        · have := r.it.lt hl hf (j := k) (by omega) (by omega)
          omega
      | false => rw [r.pd1 hlk hfk]; exact ih

theorem Run.ls1 (r : Run b l ds K O base call D) {k : Nat} {o : AO} (h : l[k]? = some o) : ∀ x ∈ (D k).ls, x ∈ (D (k + 1)).ls := by
  intro x hx
  rcases r.step h with ⟨_, v, y, _, h2⟩ | ⟨_, _, h1, s, _, h2, h3⟩ | ⟨_, _, _, hr⟩ | ⟨_, _, _, s, h1, h2⟩
  · rw [h2]; exact hx
  · rw [h3]; exact hx
  · rcases hr with ⟨_, s, h1, h2⟩ | ⟨_, h1⟩ | ⟨_, v, _, h1⟩
    · rw [h2]; exact hx
    · rw [h1]; exact hx
    · rw [h1]; exact List.mem_cons_of_mem _ hx
  · rw [h2]; exact hx

theorem Run.ls (r : Run b l ds K O base call D) {k : Nat} : ∀ {kk : Nat}, k ≤ kk → kk ≤ l.length → ∀ x ∈ (D k).ls, x ∈ (D kk).ls := by
  intro kk
  induction kk with
  | zero => intro h _; have : k = 0 := by omega
            subst this; exact fun x h => h
  | succ kk ih =>
    intro h hk x hx
    by_cases e : k = kk + 1
    · subst e; exact hx
    · have hl : l[kk]? = some (l[kk]'(by omega)) := by simp
      exact r.ls1 hl x (ih (by omega) (by omega) x hx)

/-- a reading gives the same wherever it may be made -/
theorem Run.read (r : Run b l ds K O base call D) (hall : allHold (D l.length).ls (Hs l D) = true) {k : Nat} {o : AO} (h : l[k]? = some o) (hf : floats o = false) (ha : o.op.act = false)
    {S : Nat → Prop} {c ck : Nat} (hS : Cut (actsOf l) S c) (hk : Cut (actsOf l) (· < k) ck) (h1 : ∀ a ∈ actsOf l, bitAt b k a = true → S a) (h2 : ∀ a ∈ actsOf l, S a → bitAt b a k = false)
    (g1 : ∀ a, bitAt b k a = true → a < k) (g2 : ∀ a, bitAt b a k = true → k < a)
    {hh : AH} (hat : (Hs l D)[c]? = some hh) :
    (awants o.guard (D k).s.tm = some false ∧ (D (k + 1)).s.tm = aput (D k).s.tm o.dst undef) ∨
    (awants o.guard (D k).s.tm = some true ∧ ∃ v, o.op.pure.f (D k).s.tm hh = some v ∧ (D (k + 1)).s.tm = aput (D k).s.tm o.dst v) := by
  have hlen : k ≤ l.length := by
    have := lt_of_some (hp := l.toArray) (r := k) (by simpa using h)
    simp at this; omega
  have lo : lows b l k ≤ c := hS.lo h1
  have hi : c ≤ highs b l k := hS.hi (fun a hm hs => by rw [h2 a hm hs]; rfl)
  have lo' : lows b l k ≤ ck := hk.lo (fun a _ hb => g1 a hb)
  have hi' : ck ≤ highs b l k := hk.hi (fun a _ hs => by
    have hs : a < k := hs
    cases hb : bitAt b a k with
    | false => rfl
    | true => have := g2 a hb; omega)
  have hak := r.at hlen hk
  -- an operation that tells the same at both heaps
  have op : (o.op.pure.f (D k).s.tm hh = o.op.pure.f (D k).s.tm (D k).s.h) → StepOp call D k o → (awants o.guard (D k).s.tm = some false ∧ (D (k + 1)).s.tm = aput (D k).s.tm o.dst undef) ∨
      (awants o.guard (D k).s.tm = some true ∧ ∃ v, o.op.pure.f (D k).s.tm hh = some v ∧ (D (k + 1)).s.tm = aput (D k).s.tm o.dst v) := by
    rintro e ⟨s, q1, q2⟩
    rcases astep_some q1 with ⟨w1, w2⟩ | ⟨w1, v, w2, w3⟩
    · exact .inl ⟨w1, by rw [q2, w2]⟩
    · exact .inr ⟨w1, v, by rw [e]; exact (gives_pure ha w2).2, by rw [q2]; rw [w3]⟩
  rcases r.step h with ⟨q, _⟩ | ⟨_, q, _⟩ | ⟨_, _, _, hr⟩ | ⟨_, _, hre, hr⟩
  · rw [hf] at q; cases q
  · rw [ha] at q; cases q
  · rcases hr with ⟨q1, q2⟩ | ⟨q1, q2⟩ | ⟨q1, v, q2, q3⟩
    · have : c = ck := by omega
      subst this
      rw [hak] at hat; cases hat
      exact op rfl q2
    · exact .inl ⟨q1, by rw [q2]⟩
    · refine .inr ⟨q1, v, ?_, by rw [q3]⟩
      have hm : (⟨lows b l k, highs b l k, o.op.pure.f (D k).s.tm, v⟩ : Ld) ∈ (D l.length).ls := by
        refine r.ls (k := k + 1) ?_ (Nat.le_refl _) _ (by rw [q3]; exact List.mem_cons_self ..)
        have := lt_of_some (hp := l.toArray) (r := k) (by simpa using h)
        simp at this; omega
      have := holdsAt_spec (allHold_spec hall _ hm) c hh hat (by simpa using lo) (by simpa using hi)
      exact this
  · exact op (pure_any ha hre _ _) hr
end
end Go.Ab
