/-
  Regions that draw: in whatever order their operations come.
-/
import Derived.Test.YtpbcecibooaebaaGreatDoorAbDraw10
namespace Go.Ab
open Go

theorem mapO_get {α β : Type} {f : α → Option β} : ∀ {l : List α} {r : List β}, mapO f l = some r → l.length = r.length ∧ ∀ (i : Nat) a, l[i]? = some a → ∃ b, r[i]? = some b ∧ f a = some b := by
  intro l
  induction l with
  | nil => intro r h; simp [mapO] at h; subst h; exact ⟨rfl, fun i a h => by simp at h⟩
  | cons x l ih =>
    intro r h
    unfold mapO at h
    split at h <;> first | (simp at h; done) | skip
    rename_i b bs hb hbs
    cases h
    obtain ⟨h1, h2⟩ := ih hbs
    refine ⟨by simp [h1], fun i a hi => ?_⟩
    cases i with
    | zero => simp at hi; subst hi; exact ⟨b, rfl, hb⟩
    | succ i => exact h2 i a (by simpa using hi)

theorem bitAt_lt {ops : Array Oper} (he : edgesOk ops.toList.zipIdx = true) : ∀ (j i : Nat), bitAt (Region.before ops).toList j i = true → i < j := by
  intro j
  induction j using Nat.strongRecOn with
  | _ j ih =>
    intro i h
    obtain ⟨o, _, e, _, _, h1, h2⟩ := bitAt_spec he h
    rcases h2 with rfl | h2
    · exact h1
    · have := ih _ h1 i h2
      omega

theorem tempsOk_spec {l : List AO} {b : List Nat} (h : tempsOk l.zipIdx b = true) {j q : Nat} {o p : AO} {t : Nat} (hj : l[j]? = some o) (ht : t ∈ o.names) (hq : l[q]? = some p) (hd : p.dst = some t) :
    j = q ∨ bitAt b j q = true ∨ bitAt b q j = true := by
  have h1 := List.all_eq_true.1 h (o, j) (by rw [List.mem_zipIdx_iff_getElem?]; exact hj)
  have h2 := List.all_eq_true.1 h1 t ht
  have h3 := List.all_eq_true.1 h2 (p, q) (by rw [List.mem_zipIdx_iff_getElem?]; exact hq)
  simp only [hd] at h3
  simp only [Bool.or_eq_true, Bool.not_eq_true'] at h3
  rcases h3 with ((h3 | h3) | h3) | h3
  · simp at h3
  · exact .inl (by simpa using h3)
  · exact .inr (.inl h3)
  · exact .inr (.inr h3)

section
variable {E : Cx} {m : Mp} {P : Program} {call : Call}

/-- a floating instruction, in the walk -/
theorem float_sound (hg : Globs P m) {o : Oper} {i : AI} (hc : cOp P o.op = some i) (hn : i.isNew = true) {h h' : AH} {w : World} (r : Rel E m h w.heap) {tm : FT} {a : Act}
    (hf : FR E m tm a.tmps) {b : Nat} {v : AV} {X : Blk} (hv : i.newBlk.f b tm = some (v, X)) (na : NewAt m h b X h') {ro : Option Nat} {K : Act → World → Prop} {Q : Exit → Act → World → Prop}
    (hK : ∀ x w', PostX (some b) E m h w v h' x w' → K (a.put o.dst x) w') : o.wpIn (fen ro) 0 P a w K Q := by
  refine ⟨about_of a w, ?_⟩
  rw [Oper.semAt_eq _ _ _ (cOp_not_defer hc)]
  obtain ⟨n, w', x, g1, g2, g3⟩ := newBlk_sound hg hc hn r hf hv na
  rw [g1]
  rcases g2 with rfl | ⟨rfl, rfl⟩
  · exact hK x w' g3
  · exact hK Go.undef w' g3

/-- what a region that draws is -/
structure Reg (P : Program) (nt : Nat) (ops : Array Oper) (l : List AO) (b : List Nat) (ds : List DI) (K : Nat → Nat) (O : Nat → List (Nat × Nat)) (base : Nat) (call : Call) (D : Nat → DS) : Prop where
  run : Run b l ds K O base call D
  hb : b = (Region.before ops).toList
  cops : mapO (cOper P nt ops) ops.toList = some l
  temps : tempsOk l.zipIdx b = true
  chain : chained b (actsOf l) = true
  edges : edgesOk ops.toList.zipIdx = true
  hold : allHold (D l.length).ls (Hs l D) = true

/-- a block that is there, and that no act that has been done has laid -/
def OpenAt (b : List Nat) (l : List AO) (S : Nat → Prop) (i : Nat) : Prop :=
  (∃ o, l[i]? = some o ∧ floats o = true) ∧ S i ∧ ∀ j o, l[j]? = some o → isAct o = true → S j → bitAt b j i = false

def Undone (l : List AO) (S : Nat → Prop) (i : Nat) : Prop := (∃ o, l[i]? = some o ∧ floats o = true) ∧ ¬ S i

structure Inv (E : Cx) (P : Program) (nt : Nat) (b : List Nat) (l : List AO) (K : Nat → Nat) (base : Nat) (D : Nat → DS) (m0 : Mp) (h0 : AH) (a0 : Act) (w0 : World) (S : Nat → Prop)
    (m : Mp) (c : Nat) (h : AH) (tm : FT) (a : Act) (w : World) : Prop where
  cut : Cut (actsOf l) S c
  at' : (Hs l D)[c]? = some h
  rel : Rel E m h w.heap
  fr : Fr m0 h0 w0.heap m h w.heap
  same : Same w0 w
  glob : Globs P m
  tmps : FR E m tm a.tmps
  size : a.tmps.size = nt
  defers : a.defers = a0.defers
  wrote : ∀ t, Wrote l S t → nth tm t = nth (D l.length).s.tm t
  start : ∀ t, ¬ Wrote l S t → nth tm t = nth (D 0).s.tm t
  flo : Flo E w0.heap.size (fun i => base + K i) (blkOf l K base D) (OpenAt b l S) (Undone l S) m h w.heap

variable {nt : Nat} {ops : Array Oper} {l : List AO} {b : List Nat} {ds : List DI} {K : Nat → Nat} {O : Nat → List (Nat × Nat)} {base : Nat} {D : Nat → DS}
  {m0 : Mp} {h0 : AH} {a0 : Act} {w0 : World}

/-- the frame stands at an operation's temporaries as in the run -/
theorem Inv.names {S : Nat → Prop} {c : Nat} {h : AH} {tm : FT} {a : Act} {w : World} (g : Reg P nt ops l b ds K O base call D) (I : Inv E P nt b l K base D m0 h0 a0 w0 S m c h tm a w)
    {j : Nat} {o : AO} (hj : l[j]? = some o) (hnS : ¬ S j) (hS : ∀ j i, S j → bitAt b j i = true → S i) (hb : ∀ i, bitAt b j i = true → S i) : ∀ t ∈ o.names, nth tm t = nth (D j).s.tm t := by
  intro t ht
  have hlt : j < l.length := by
    have := lt_of_some (hp := l.toArray) (r := j) (by simpa using hj)
    simpa using this
  have lt := bitAt_lt g.edges
  rw [← g.hb] at lt
  have key : ∀ q p, l[q]? = some p → p.dst = some t → (S q ↔ q < j) := by
    intro q p hq hp
    rcases tempsOk_spec g.temps hj ht hq hp with rfl | h1 | h1
    · exact ⟨fun h => absurd h hnS, fun h => by omega⟩
    · exact ⟨fun _ => lt _ _ h1, fun _ => hb q h1⟩
    · exact ⟨fun h => absurd (hS _ _ h h1) hnS, fun h => by have := lt _ _ h1; omega⟩
  by_cases hw : Wrote l S t
  · rw [I.wrote t hw]
    obtain ⟨q, p, h1, h2, h3⟩ := hw
    exact (g.run.tm_wrote (Nat.le_of_lt hlt) ⟨q, p, (key q p h2 h3).1 h1, h2, h3⟩).symm
  · rw [I.start t hw]
    refine (g.run.tm_start (Nat.le_of_lt hlt) ?_).symm
    rintro ⟨q, p, h1, h2, h3⟩
    exact hw ⟨q, p, (key q p h2 h3).2 h1, h2, h3⟩

/-- an operation has been done -/
theorem Inv.done {S S' : Nat → Prop} {c c2 : Nat} {h h2 : AH} {tm : FT} {a : Act} {w w2 : World} {m2 : Mp} (g : Reg P nt ops l b ds K O base call D) (I : Inv E P nt b l K base D m0 h0 a0 w0 S m c h tm a w)
    {j : Nat} {o : AO} (hj : l[j]? = some o) (hS' : ∀ i, S' i ↔ S i ∨ i = j) (hdst : ∀ t, o.dst = some t → t < nt) {v : AV} {x : Value}
    (hcut : Cut (actsOf l) S' c2) (hat : (Hs l D)[c2]? = some h2) (hrel : Rel E m2 h2 w2.heap) (hfr : Fr m0 h0 w0.heap m2 h2 w2.heap) (hsame : Same w w2) (hext : Ext m m2) (hv : VR E m2 v x)
    (htm : (D (j + 1)).s.tm = aput (D j).s.tm o.dst v) (hflo : Flo E w0.heap.size (fun i => base + K i) (blkOf l K base D) (OpenAt b l S') (Undone l S') m2 h2 w2.heap) :
    Inv E P nt b l K base D m0 h0 a0 w0 S' m2 c2 h2 (aput tm o.dst v) (a.put o.dst x) w2 := by
  have hlt : j < l.length := by
    have := lt_of_some (hp := l.toArray) (r := j) (by simpa using hj)
    simpa using this
  have wiff : ∀ t, o.dst ≠ some t → (Wrote l S' t ↔ Wrote l S t) := by
    intro t ht
    constructor
    · rintro ⟨i, p, h1, h2, h3⟩
      rcases (hS' i).1 h1 with h1 | rfl
      · exact ⟨i, p, h1, h2, h3⟩
      · rw [hj] at h2; cases h2; exact absurd h3 ht
    · rintro ⟨i, p, h1, h2, h3⟩
      exact ⟨i, p, (hS' i).2 (.inl h1), h2, h3⟩
  refine ⟨hcut, hat, hrel, hfr, I.same.trans hsame, I.glob.mono hext, (I.tmps.mono hext).aput (by rw [I.size]; exact hdst) hv, by rw [put_size, I.size], by rw [put_defers]; exact I.defers, ?_, ?_, hflo⟩
  · intro t hw
    rw [nth_aput]
    by_cases ht : o.dst = some t
    · rw [if_pos ht]
      have := g.run.tm_wrote (k := j + 1) (t := t) hlt ⟨j, o, Nat.lt_succ_self j, hj, ht⟩
      rw [htm, nth_aput, if_pos ht] at this
      exact this
    · rw [if_neg ht]
      exact I.wrote t ((wiff t ht).1 hw)
  · intro t hw
    rw [nth_aput]
    by_cases ht : o.dst = some t
    · exact absurd ⟨j, o, (hS' j).2 (.inr rfl), hj, ht⟩ hw
    · rw [if_neg ht]
      exact I.start t (fun q => hw ((wiff t ht).2 q))

/-- where an operation neither floats nor acts, the same blocks stand open -/
theorem open_same {S S' : Nat → Prop} {j : Nat} {o : AO} (hj : l[j]? = some o) (hf : floats o = false) (hS' : ∀ i, S' i ↔ S i ∨ i = j) :
    (∀ i, OpenAt b l S' i → OpenAt b l S i) ∧ (∀ i, Undone l S' i → Undone l S i) := by
  refine ⟨?_, ?_⟩
  · rintro i ⟨⟨p, h1, h2⟩, h3, h4⟩
    refine ⟨⟨p, h1, h2⟩, ?_, fun k q hk hq hs => h4 k q hk hq ((hS' k).2 (.inl hs))⟩
    rcases (hS' i).1 h3 with h | rfl
    · exact h
    · rw [hj] at h1; cases h1; rw [hf] at h2; cases h2
  · rintro i ⟨h1, h2⟩
    exact ⟨h1, fun h => h2 ((hS' i).2 (.inl h))⟩

theorem Cut.same {S S' : Nat → Prop} {c j : Nat} {o : AO} (h : Cut (actsOf l) S c) (hj : l[j]? = some o) (ha : isAct o = false) (hS' : ∀ i, S' i ↔ S i ∨ i = j) : Cut (actsOf l) S' c :=
  h.congr (fun i hi => by
    rw [hS']
    refine ⟨fun q => q.elim id (fun e => ?_), .inl⟩
    subst e
    obtain ⟨p, h1, h2⟩ := mem_actsOf.1 hi
    rw [hj] at h1; cases h1; rw [ha] at h2; cases h2)

/-- one operation more -/
theorem Inv.step (hk : CallOk E P call) {S S' : Nat → Prop} {c : Nat} {h : AH} {tm : FT} {a : Act} {w : World} (g : Reg P nt ops l b ds K O base call D) (I : Inv E P nt b l K base D m0 h0 a0 w0 S m c h tm a w)
    (hbase : h0.next ≤ base) {j : Nat} {oper : Oper} {o : AO} (hop : ops[j]? = some oper) (hj : l[j]? = some o) (hco : cOper P nt ops oper = some o) (hnS : ¬ S j)
    (hS : ∀ j i, S j → bitAt b j i = true → S i) (hb : ∀ i, bitAt b j i = true → S i) (hS' : ∀ i, S' i ↔ S i ∨ i = j) {ro : Option Nat} {Q : Exit → Act → World → Prop} {k : Act → World → Prop}
    (hK : ∀ m' c' h' tm' a' w', Inv E P nt b l K base D m0 h0 a0 w0 S' m' c' h' tm' a' w' → k a' w') : wpOpIn (fen ro) 0 P ops Q j k a w := by
  have hlt : j < l.length := by
    have := lt_of_some (hp := l.toArray) (r := j) (by simpa using hj)
    simpa using this
  obtain ⟨c1, c2, c3, c4⟩ := cOper_some hco
  have hdst : ∀ t, o.dst = some t → t < nt := fun t ht => c4 t (by rw [← c3]; exact ht)
  have hnm := I.names g hj hnS hS hb
  have hgd := names_guard hnm
  have hod := names_opd hnm
  have lt := bitAt_lt g.edges
  rw [← g.hb] at lt
  unfold wpOpIn
  rw [hop]
  simp only
  cases hfl : floats o with
  | true =>
    -- a block that floats
    obtain ⟨v, n1, n2⟩ := g.run.new hj hfl
    have hnew : o.op.isNew = true := by unfold floats at hfl; simp only [Bool.and_eq_true] at hfl; exact hfl.1
    have hgn : o.guard = none := by
      unfold floats at hfl
      simp only [Bool.and_eq_true] at hfl
      cases hh : o.guard with
      | none => rfl
      | some q => rw [hh] at hfl; simp at hfl
    have hw : awants o.guard tm = some true := by rw [hgn]; rfl
    rw [if_pos (wanted_of (ops := ops) c2 I.tmps hw)]
    rw [← newBlk_congr hod] at n1
    have hun : Undone l S j := ⟨⟨o, hj, hfl⟩, hnS⟩
    obtain ⟨u1, u2⟩ := I.flo.un j hun
    refine float_sound I.glob c1 hnew I.rel I.tmps n1 (h' := h.put (base + K j) (blkOf l K base D j)) ⟨u1, fun c => AH.get_put h _ c _, Nat.le_refl _, u2⟩ (fun x w2 hp => ?_)
    obtain ⟨m2, p1, p2, p3, p4⟩ := hp
    have hinj : ∀ i, Undone l S i → i ≠ j → base + K i ≠ base + K j := by
      rintro i ⟨⟨p, q1, q2⟩, _⟩ hne e
      exact hne (g.run.it.inj q1 hj q2 hfl (by omega))
    obtain ⟨r1, r2, r3⟩ := I.flo.new I.rel hun hinj (newBlk_own n1) I.fr.size p2 p3
    have hna : isAct o = false := by unfold isAct; rw [hfl]; simp
    rw [← c3]
    refine hK m2 c h _ _ w2 (I.done g hj hS' hdst (I.cut.same hj hna hS') I.at' r1 (Fr.transX I.fr r2 (fun b hb => by cases hb; omega)) p4 p3.ext p1 (by rw [n2]) (r3.sub ?_ ?_))
    · rintro i ⟨q1, q2, q3⟩
      rcases (hS' i).1 q2 with q2 | rfl
      · exact .inl ⟨q1, q2, fun k p hk hp hs => q3 k p hk hp ((hS' k).2 (.inl hs))⟩
      · exact .inr rfl
    · rintro i ⟨q1, q2⟩
      exact ⟨⟨q1, fun hs => q2 ((hS' i).2 (.inl hs))⟩, fun e => q2 ((hS' i).2 (.inr e))⟩
  | false =>
    cases hact : o.op.act with
    | false =>
      -- an operation that leaves the heap
      have hna : isAct o = false := by unfold isAct; rw [hact]; rfl
      obtain ⟨cj, hcj, _, _⟩ := g.run.heap j (Nat.le_of_lt hlt)
      obtain ⟨s1, s2⟩ := open_same (b := b) hj hfl hS'
      rcases g.run.read g.hold hj hfl hact I.cut hcj (fun i _ hi => hb i hi) (fun i _ hs => by
          cases hbi : bitAt b i j with
          | false => rfl
          | true => exact absurd (hS _ _ hs hbi) hnS) (fun i hi => lt _ _ hi) (fun i hi => lt _ _ hi) I.at' with ⟨w1, w2⟩ | ⟨w1, v, w2, w3⟩
      · rw [← hgd] at w1
        rw [if_neg (by rw [wanted_of (ops := ops) c2 I.tmps w1]; simp)]
        refine ⟨about_of (ro := ro) a w, ?_⟩
        rw [← c3]
        exact hK m c h _ _ w (I.done g hj hS' hdst (I.cut.same hj hna hS') I.at' I.rel I.fr (Same.refl w) (Ext.refl m) .undef w2 (I.flo.sub s1 s2))
      · rw [← hgd] at w1
        rw [if_pos (wanted_of (ops := ops) c2 I.tmps w1)]
        have hgv : o.op.gives call tm h = some (v, h) := by
          unfold AI.gives
          rw [hact]
          simp only
          rw [pure_congr hod, w2]
        refine op_sound hk I.glob c1 I.rel I.tmps hgv (fun x w2 hp => ?_)
        obtain ⟨m2, p1, p2, p3, p4⟩ := hp
        rw [← c3]
        exact hK m2 c h _ _ w2 (I.done g hj hS' hdst (I.cut.same hj hna hS') I.at' p2 (I.fr.trans p3) p4 p3.ext p1 w3 ((I.flo.step p3).sub s1 s2))
    | true =>
      -- an act
      have hia : isAct o = true := by unfold isAct; rw [hact, hfl]; rfl
      obtain ⟨cj, hcj, _, _⟩ := g.run.heap j (Nat.le_of_lt hlt)
      obtain ⟨ha1, ha2⟩ := Cut.succ_act hj hia hcj
      -- it is the next one
      have hc : c = cj := by
        have h1 : ¬ cj < c := fun q => hnS ((I.cut.2 _ _ ha1).2 q)
        rcases Nat.lt_or_ge c cj with q | q
        · exfalso
          have hl : (actsOf l)[cj - 1]? = some ((actsOf l)[cj - 1]'(by have := hcj.1; omega)) := by simp
          have hbit := chained_spec g.chain (cj - 1) _ j hl (by rw [show cj - 1 + 1 = cj by omega]; exact ha1)
          have := (I.cut.2 _ _ hl).1 (hb _ hbit)
          omega
        · omega
      subst hc
      have hath := g.run.at (Nat.le_of_lt hlt) hcj
      rw [I.at'] at hath
      have hath : h = (D j).s.h := Option.some.inj hath
      have hat2 := g.run.at (k := j + 1) hlt ha2
      have hcut2 : Cut (actsOf l) S' (c + 1) := I.cut.next (actsOf_nodup l) ha1 hS'
      rcases g.run.step hj with ⟨q, _⟩ | ⟨_, _, h1, s, l1, l2, l3⟩ | ⟨_, q, _⟩ | ⟨_, q, _⟩
      · rw [hfl] at q; cases q
      · rw [← hath] at l1
        have hop' : ∀ i q, (i, q) ∈ O j → i < j ∧ (∃ p, l[i]? = some p ∧ floats p = true) ∧ q = K i ∧ ∀ k p, i < k → k < j → l[k]? = some p → isAct p = true → bitAt b k i = false :=
          fun i q hm => (g.run.it.open_iff g.run.o0 j (Nat.le_of_lt hlt) i q).1 hm
        have hlay : ∀ q ∈ ((O j).filter fun f => bitAt b j f.1).map (·.2), ∃ i, OpenAt b l S i ∧ base + K i = base + q ∧ findB (D j).pd q = some (blkOf l K base D i) := by
          intro q hq
          obtain ⟨⟨i, q'⟩, hm, rfl⟩ := List.mem_map.1 hq
          obtain ⟨hm, hbit⟩ := List.mem_filter.1 hm
          obtain ⟨k1, ⟨p, k2, k2'⟩, k3, k4⟩ := hop' i q' hm
          refine ⟨i, ⟨⟨p, k2, k2'⟩, hb i hbit, fun k r hk hr hs => ?_⟩, by simp only [k3], by simp only [k3]; exact g.run.pd (Nat.le_of_lt hlt) k1 k2 k2'⟩
          cases hbk : bitAt b k i with
          | false => rfl
          | true =>
            obtain ⟨ck, hck⟩ := List.mem_iff_getElem?.1 (mem_actsOf.2 ⟨r, hk, hr⟩)
            have hlk : k < j := (hcj.2 ck k hck).2 ((I.cut.2 ck k hck).1 hs)
            rw [k4 k r (lt _ _ hbk) hlk hk hr] at hbk
            cases hbk
        obtain ⟨a1, a2, a3, a4, a5⟩ := lay_sound (nm := fun i => base + K i) l1 (g.run.it.open_nodup g.run.o0 (Nat.le_of_lt hlt) _) hlay I.rel I.flo
        have hfr1 := I.fr.laid (Nat.le_refl _) a3 a4 a5
        have hs1 : ∀ i, OpenAt b l S' i → OpenAt b l S i ∧ ∀ q ∈ ((O j).filter fun f => bitAt b j f.1).map (·.2), base + K i ≠ base + q := by
          rintro i ⟨⟨p, q1, q1'⟩, q2, q3⟩
          have hne : i ≠ j := by rintro rfl; rw [hj] at q1; cases q1; rw [hfl] at q1'; cases q1'
          refine ⟨⟨⟨p, q1, q1'⟩, ((hS' i).1 q2).resolve_right hne, fun k r hk hr hs => q3 k r hk hr ((hS' k).2 (.inl hs))⟩, fun q hq e => ?_⟩
          obtain ⟨⟨i2, q'⟩, hm, rfl⟩ := List.mem_map.1 hq
          obtain ⟨hm, hbit⟩ := List.mem_filter.1 hm
          obtain ⟨_, ⟨p2, k2, k2'⟩, k3, _⟩ := hop' i2 q' hm
          have := g.run.it.inj q1 k2 q1' k2' (by simp only at e; omega)
          subst this
          have := q3 j o hj hia ((hS' j).2 (.inr rfl))
          simp only at hbit
          rw [hbit] at this; cases this
        have hs2 : ∀ i, Undone l S' i → Undone l S i := fun i hi => ⟨hi.1, fun q => hi.2 ((hS' i).2 (.inl q))⟩
        rcases astep_some l2 with ⟨w1, w2⟩ | ⟨w1, v, w2, w3⟩
        · simp only at w1
          rw [← hgd] at w1
          rw [if_neg (by rw [wanted_of (ops := ops) c2 I.tmps w1]; simp)]
          refine ⟨about_of (ro := ro) a w, ?_⟩
          rw [← c3]
          rw [l3, w2] at hat2
          refine hK m (c + 1) h1 _ _ w (I.done g hj hS' hdst hcut2 hat2 a1 hfr1 (Same.refl w) (Ext.refl m) .undef (by rw [l3, w2]) (a2.sub hs1 hs2))
        · simp only at w1 w2
          rw [← hgd] at w1
          rw [if_pos (wanted_of (ops := ops) c2 I.tmps w1)]
          rw [← gives_congr hod] at w2
          refine op_sound hk I.glob c1 a1 I.tmps w2 (fun x w2' hp => ?_)
          obtain ⟨m2, p1, p2, p3, p4⟩ := hp
          rw [← c3]
          rw [l3] at hat2
          refine hK m2 (c + 1) s.h _ _ w2' (I.done g hj hS' hdst hcut2 hat2 p2 (hfr1.trans p3) p4 p3.ext p1 (by rw [l3]; rw [w3]) ((a2.step p3).sub hs1 hs2))
      · rw [hact] at q; cases q
      · rw [hact] at q; cases q
end
end Go.Ab
