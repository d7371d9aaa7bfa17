/-
  Regions that draw: blocks that are there but not laid yet.
-/
import Derived.Test.YtpbcecibooaebaaGreatDoorAbDraw9
namespace Go.Ab
open Go

section
variable {E : Cx} {m m' : Mp} {P : Program}

/-- z: blocks from there on are new; nm: the blocks' names; X: what they hold; Op: those that are there, not laid; Un: those that are not there yet -/
structure Flo (E : Cx) (z : Nat) (nm : Nat → Nat) (X : Nat → Blk) (Op Un : Nat → Prop) (m : Mp) (h : AH) (hp : Hp) : Prop where
  opn : ∀ i, Op i → ∃ cb, m (nm i) = some cb ∧ BR E m (X i) cb hp ∧ ¬ Present m h cb.blk ∧ z ≤ cb.blk
  ne : ∀ i j cb cb', Op i → Op j → i ≠ j → m (nm i) = some cb → m (nm j) = some cb' → cb.blk ≠ cb'.blk
  un : ∀ i, Un i → m (nm i) = none ∧ nm i < h.next

variable {z : Nat} {nm : Nat → Nat} {X : Nat → Blk} {Op Un : Nat → Prop}

theorem Flo.sub {h : AH} {hp : Hp} (f : Flo E z nm X Op Un m h hp) {Op' Un' : Nat → Prop} (h1 : ∀ i, Op' i → Op i) (h2 : ∀ i, Un' i → Un i) : Flo E z nm X Op' Un' m h hp :=
  ⟨fun i hi => f.opn i (h1 i hi), fun i j cb cb' hi hj => f.ne i j cb cb' (h1 i hi) (h1 j hj), fun i hi => f.un i (h2 i hi)⟩

/-- what an operation leaves -/
theorem Flo.stepX {h h' : AH} {hp hp' : Hp} (f : Flo E z nm X Op Un m h hp) {fl : Option Nat} (fr : FrX fl m h hp m' h' hp') (hu : ∀ i, Un i → some (nm i) ≠ fl) : Flo E z nm X Op Un m' h' hp' := by
  refine ⟨fun i hi => ?_, fun i j cb cb' hi hj hne e e' => ?_, fun i hi => ?_⟩
  · obtain ⟨cb, h1, h2, h3, h4⟩ := f.opn i hi
    exact ⟨cb, fr.ext _ _ h1, (h2.mono fr.ext).of_eq (fr.keep _ h2.lt (fun ho => h3 ho.present)), fun hp => h3 (fr.pres _ h2.lt hp), h4⟩
  · obtain ⟨c1, h1, _⟩ := f.opn i hi
    obtain ⟨c2, h2, _⟩ := f.opn j hj
    have e1 := fr.ext _ _ h1
    have e2 := fr.ext _ _ h2
    rw [e] at e1; rw [e'] at e2
    cases e1; cases e2
    exact f.ne i j _ _ hi hj hne h1 h2
  · obtain ⟨h1, h2⟩ := f.un i hi
    exact ⟨fr.dom _ h2 h1 (hu i hi), Nat.lt_of_lt_of_le h2 fr.next⟩

theorem Flo.step {h h' : AH} {hp hp' : Hp} (f : Flo E z nm X Op Un m h hp) (fr : Fr m h hp m' h' hp') : Flo E z nm X Op Un m' h' hp' := f.stepX fr (fun _ _ => by simp)

theorem Present.of_put {h : AH} {b : Nat} {x : Blk} {cb : CB} (hm : m b = some cb) {k : Nat} (hp : Present m (h.put b x) k) : Present m h k ∨ k = cb.blk := by
  obtain ⟨c, y, cc, h1, h2, h3⟩ := hp
  rw [AH.get_put] at h1
  by_cases e : b = c
  · subst e
    rw [hm] at h2; cases h2
    exact .inr h3.symm
  · rw [if_neg e] at h1
    exact .inl ⟨c, y, cc, h1, h2, h3⟩

theorem Owned.of_put {h : AH} {b : Nat} {x : Blk} {cb : CB} (hm : m b = some cb) {k : Nat} (hp : Owned m (h.put b x) k) : Owned m h k ∨ k = cb.blk := by
  obtain ⟨c, y, cc, h1, ho, h2, h3⟩ := hp
  rw [AH.get_put] at h1
  by_cases e : b = c
  · subst e
    rw [hm] at h2; cases h2
    exact .inr h3.symm
  · rw [if_neg e] at h1
    exact .inl ⟨c, y, cc, h1, ho, h2, h3⟩

/-- a block that is there is laid -/
theorem Rel.lay1 {h : AH} {hp : Hp} (r : Rel E m h hp) {b : Nat} {x : Blk} {cb : CB} (hm : m b = some cb) (hb : BR E m x cb hp) (hn : ¬ Present m h cb.blk) : Rel E m (h.put b x) hp := by
  refine ⟨fun c y hc => ?_, fun c c' y y' cc cc' h1 h2 h3 h4 hne ho => ?_, fun c hc => r.fresh c (by simpa using hc)⟩
  · rw [AH.get_put] at hc
    by_cases e : b = c
    · rw [if_pos e] at hc; cases hc
      subst e
      exact ⟨cb, hm, hb⟩
    · rw [if_neg e] at hc
      exact r.dom c y hc
  · rw [AH.get_put] at h1 h2
    by_cases e : b = c
    · subst e
      rw [if_neg hne] at h2
      rw [hm] at h3; cases h3
      exact fun q => hn ⟨c', y', cc', h2, h4, q.symm⟩
    · rw [if_neg e] at h1
      by_cases e' : b = c'
      · subst e'
        rw [hm] at h4; cases h4
        exact fun q => hn ⟨c, y, cc, h1, h3, q⟩
      · rw [if_neg e'] at h2
        exact r.inj c c' y y' cc cc' h1 h2 h3 h4 hne ho

theorem lay_cons (base : Nat) (pd : List (Nat × Blk)) (q : Nat) (fl : List Nat) (h : AH) : lay base pd (q :: fl) h = match findB pd q with
    | some x => lay base pd fl (h.put (base + q) x)
    | none => none := by
  have e : lay base pd (q :: fl) h = match findB pd q with
    | some x => withN (base + q) fun b => lay base pd fl (h.put b x)
    | none => none := rfl
  rw [e]
  split <;> simp

/-- the blocks that are there are laid -/
theorem lay_sound {base : Nat} {pd : List (Nat × Blk)} {hp : Hp} : ∀ {fl : List Nat} {h h1 : AH} {Op : Nat → Prop}, lay base pd fl h = some h1 → fl.Nodup → (∀ q ∈ fl, ∃ i, Op i ∧ nm i = base + q ∧ findB pd q = some (X i)) →
    Rel E m h hp → Flo E z nm X Op Un m h hp →
    Rel E m h1 hp ∧ Flo E z nm X (fun i => Op i ∧ ∀ q ∈ fl, nm i ≠ base + q) Un m h1 hp ∧ h1.next = h.next ∧ (∀ k, Present m h1 k → Present m h k ∨ z ≤ k) ∧ (∀ k, Owned m h1 k → Owned m h k ∨ z ≤ k) := by
  intro fl
  induction fl with
  | nil =>
    intro h h1 Op hl _ _ r f
    cases (show some h = some h1 from hl)
    exact ⟨r, f.sub (fun i hi => hi.1) (fun _ h => h), rfl, fun _ h => .inl h, fun _ h => .inl h⟩
  | cons q fl ih =>
    intro h h1 Op hl hn hq r f
    rw [lay_cons] at hl
    obtain ⟨i, hi, hnm, hfb⟩ := hq q (List.mem_cons_self ..)
    rw [hfb] at hl
    simp only at hl
    obtain ⟨cb, g1, g2, g3, g4⟩ := f.opn i hi
    rw [hnm] at g1
    rw [List.nodup_cons] at hn
    have r' := r.lay1 g1 g2 g3
    have f' : Flo E z nm X (fun j => Op j ∧ nm j ≠ base + q) Un m (h.put (base + q) (X i)) hp := by
      refine ⟨fun j hj => ?_, fun j k cb cb' hj hk => f.ne j k cb cb' hj.1 hk.1, fun j hj => f.un j hj⟩
      obtain ⟨cj, k1, k2, k3, k4⟩ := f.opn j hj.1
      refine ⟨cj, k1, k2, fun hp => ?_, k4⟩
      rcases Present.of_put g1 hp with hp | hp
      · exact k3 hp
      · exact f.ne j i cj cb hj.1 hi (fun e => hj.2 (by rw [e, hnm])) k1 (by rw [hnm]; exact g1) hp
    have hq' : ∀ p ∈ fl, ∃ j, (fun j => Op j ∧ nm j ≠ base + q) j ∧ nm j = base + p ∧ findB pd p = some (X j) := by
      intro p hp
      obtain ⟨j, k1, k2, k3⟩ := hq p (List.mem_cons_of_mem _ hp)
      refine ⟨j, ⟨k1, ?_⟩, k2, k3⟩
      rw [k2]
      intro e
      have : p = q := by omega
      subst this
      exact hn.1 hp
    obtain ⟨a1, a2, a3, a4, a5⟩ := ih hl hn.2 hq' r' f'
    refine ⟨a1, a2.sub (fun j hj => ⟨⟨hj.1, hj.2 q (List.mem_cons_self ..)⟩, fun p hp => hj.2 p (List.mem_cons_of_mem _ hp)⟩) (fun _ h => h), by rw [a3]; rfl, fun k hk => ?_, fun k hk => ?_⟩
    · rcases a4 k hk with h | h
      · rcases Present.of_put g1 h with h | h
        · exact .inl h
        · exact .inr (by omega)
      · exact .inr h
    · rcases a5 k hk with h | h
      · rcases Owned.of_put g1 h with h | h
        · exact .inl h
        · exact .inr (by omega)
      · exact .inr h

/-- a frame goes on over blocks that are laid -/
theorem Fr.laid {m0 : Mp} {h0 h h1 : AH} {hp0 hp : Hp} (f : Fr m0 h0 hp0 m h hp) (hz : hp0.size ≤ z) (hn : h1.next = h.next) (h4 : ∀ k, Present m h1 k → Present m h k ∨ z ≤ k) (h5 : ∀ k, Owned m h1 k → Owned m h k ∨ z ≤ k) :
    Fr m0 h0 hp0 m h1 hp :=
  ⟨f.size, f.keep, fun k hk ho => (h5 k ho).elim (f.own k hk) (fun q => by omega), fun k hk ho => (h4 k ho).elim (f.pres k hk) (fun q => by omega), f.ext, by rw [hn]; exact f.next, f.dom⟩

theorem Fr.transX {m0 m1 m2 : Mp} {h0 h1 h2 : AH} {hp0 hp1 hp2 : Hp} {fl : Option Nat} (a : Fr m0 h0 hp0 m1 h1 hp1) (b : FrX fl m1 h1 hp1 m2 h2 hp2) (hf : ∀ b, fl = some b → h0.next ≤ b) : Fr m0 h0 hp0 m2 h2 hp2 :=
  ⟨Nat.le_trans a.size b.size,
   fun k hk ho => by
     have := b.keep k (Nat.lt_of_lt_of_le hk a.size) (fun hc => ho (a.own k hk hc))
     rw [this, a.keep k hk ho],
   fun k hk ho => a.own k hk (b.own k (Nat.lt_of_lt_of_le hk a.size) ho),
   fun k hk ho => a.pres k hk (b.pres k (Nat.lt_of_lt_of_le hk a.size) ho),
   a.ext.trans b.ext, Nat.le_trans a.next b.next, fun c hc hm hn => b.dom c (Nat.lt_of_lt_of_le hc a.next) (a.dom c hc hm hn) (fun e => by have := hf c e.symm; omega)⟩

/-- a new block is there, and not laid -/
theorem Flo.new {h : AH} {hp hp' : Hp} (f : Flo E z nm X Op Un m h hp) (r : Rel E m h hp) {i : Nat} (hi : Un i) (hinj : ∀ j, Un j → j ≠ i → nm j ≠ nm i) (hown : (X i).own = true) (hz : z ≤ hp.size)
    (r' : Rel E m' (h.put (nm i) (X i)) hp') (fr : FrX (some (nm i)) m h hp m' (h.put (nm i) (X i)) hp') :
    Rel E m' h hp' ∧ FrX (some (nm i)) m h hp m' h hp' ∧ Flo E z nm X (fun j => Op j ∨ j = i) (fun j => Un j ∧ j ≠ i) m' h hp' := by
  obtain ⟨hfree, hlt⟩ := f.un i hi
  have hget : h.get (nm i) = none := by
    cases hg : h.get (nm i) with
    | none => rfl
    | some y =>
      obtain ⟨cb, h1, _⟩ := r.dom _ _ hg
      rw [hfree] at h1; cases h1
  -- what the heap without it holds
  have up : ∀ {c y}, h.get c = some y → (h.put (nm i) (X i)).get c = some y := by
    intro c y hc
    rw [AH.get_put, if_neg (fun e => by rw [← e, hget] at hc; cases hc)]
    exact hc
  have rr : Rel E m' h hp' := by
    refine ⟨fun c y hc => r'.dom c y (up hc), fun c c' y y' cb cb' h1 h2 => r'.inj c c' y y' cb cb' (up h1) (up h2), fun c hc => r'.fresh c hc⟩
  have own' : ∀ {k}, Owned m' h k → Owned m' (h.put (nm i) (X i)) k := fun ⟨c, y, cb, h1, h2, h3, h4⟩ => ⟨c, y, cb, up h1, h2, h3, h4⟩
  have pres' : ∀ {k}, Present m' h k → Present m' (h.put (nm i) (X i)) k := fun ⟨c, y, cb, h1, h3, h4⟩ => ⟨c, y, cb, up h1, h3, h4⟩
  have ff : FrX (some (nm i)) m h hp m' h hp' :=
    ⟨fr.size, fr.keep, fun k hk ho => fr.own k hk (own' ho), fun k hk ho => fr.pres k hk (pres' ho), fr.ext, Nat.le_refl _, fr.dom⟩
  have hself : (h.put (nm i) (X i)).get (nm i) = some (X i) := by rw [AH.get_put, if_pos rfl]
  obtain ⟨cb, c1, c2⟩ := r'.dom _ _ hself
  have cnp : ¬ Present m' h cb.blk := by
    rintro ⟨c, y, cc, h1, h2, h3⟩
    have hne : nm i ≠ c := fun e => by rw [← e, hget] at h1; cases h1
    exact r'.inj (nm i) c (X i) y cb cc hself (up h1) c1 h2 hne (.inl hown) h3.symm
  have cnew : hp.size ≤ cb.blk := by
    rcases Nat.lt_or_ge cb.blk hp.size with q | q
    · exfalso
      have := fr.own _ q ⟨nm i, X i, cb, hself, hown, c1, rfl⟩
      obtain ⟨c, y, cc, h1, h2, h3, h4⟩ := this
      exact cnp ⟨c, y, cc, h1, fr.ext _ _ h3, h4⟩
    · exact q
  have f' : Flo E z nm X Op (fun j => Un j ∧ j ≠ i) m' h hp' := (f.sub (fun _ h => h) (fun j (hj : Un j ∧ j ≠ i) => hj.1)).stepX ff (fun j hj => by
    intro e
    simp only [Option.some.injEq] at e
    exact hinj j hj.1 hj.2 e)
  refine ⟨rr, ff, ⟨?_, ?_, f'.un⟩⟩
  · rintro j (hj | rfl)
    · exact f'.opn j hj
    · exact ⟨cb, c1, c2, cnp, by omega⟩
  · have old : ∀ j cj, Op j → m' (nm j) = some cj → cj.blk < hp.size := by
      intro j cj hj hm
      obtain ⟨c, h1, h2, _⟩ := f.opn j hj
      have := fr.ext _ _ h1
      rw [hm] at this; cases this
      exact h2.lt
    rintro j k cj ck hj hk hne hmj hmk
    rcases hj with hj | rfl
    · rcases hk with hk | rfl
      · exact f'.ne j k cj ck hj hk hne hmj hmk
      · rw [c1] at hmk; cases hmk
        have := old j cj hj hmj
        omega
    · rcases hk with hk | rfl
      · rw [c1] at hmj; cases hmj
        have := old k ck hk hmk
        omega
      · exact absurd rfl hne

theorem newBlk_own {i : AI} {b : Nat} {tm : FT} {v : AV} {x : Blk} (h : i.newBlk.f b tm = some (v, x)) : x.own = true := by
  cases i <;> simp only [AI.newBlk, abslice] at h <;> first | (simp at h; done) | skip
  all_goals first
    | (simp only [Option.some.injEq, Prod.mk.injEq] at h; obtain ⟨_, rfl⟩ := h; rfl)
    | (split at h <;> first | (simp at h; done) | (simp only [Option.some.injEq, Prod.mk.injEq] at h; obtain ⟨_, rfl⟩ := h; rfl))
    | (unfold amkslice at h
       repeat (split at h <;> first | (simp at h; done) | skip)
       all_goals (simp only [Option.some.injEq, Prod.mk.injEq] at h; obtain ⟨_, rfl⟩ := h; rfl))
end
end Go.Ab
