/-
  The abstract heap's cells in the model's memory: loads and stores.
-/
import Derived.Test.YtpbcecibooaebaaGreatDoorAbRel
import Derived.Test.YtpbcecibooaebaaGreatDoorAbCmp
namespace Go.Ab
open Go

section
variable {E : Cx} {m : Mp} {P : Program}

/-! the tables -/

theorem run_underlying {t : TypeId} {d : TypeDesc} (h : P.underlying t = some d) (w : World) : (underlying t).run P w = .ok d w := by
  simp [underlying, program, Sem.run, bind, Sem.bind, h, pure]

theorem run_typeInfo {t : TypeId} {i : TypeInfo} (h : P.info? t = some i) (w : World) : (typeInfo t).run P w = .ok i w := by
  simp [typeInfo, program, Sem.run, bind, Sem.bind, h, pure]

theorem Sem.run_bind {α β : Type} (s : Sem α) (f : α → Sem β) (w : World) :
    (s >>= f).run P w = match s.run P w with
      | .ok a w => (f a).run P w
      | .halt h w => .halt h w := by
  show (s.bind f).run P w = _
  induction s generalizing w with
  | pure a => rfl
  | load md a k ih =>
    simp only [Sem.bind, Sem.run]
    split
    · exact ih _ _
    · split
      · exact ih _ _
      · rfl
  | store md a v k ih =>
    cases v <;> simp only [Sem.bind, Sem.run] <;> first
      | rfl
      | (split
         · split
           · rfl
           · exact ih _
         · split
           · exact ih _
           · rfl)
  | new o k ih => exact ih _ _
  | shape r k ih => exact ih _ _
  | freeze a n k ih => exact ih _
  | frozen a k ih => exact ih _ _
  | getObj r k ih =>
    simp only [Sem.bind, Sem.run]
    split
    · rfl
    · exact ih _ _
    · rfl
  | setObj r o k ih =>
    simp only [Sem.bind, Sem.run]
    split
    · rfl
    · exact ih _
    · rfl
  | choose q k ih =>
    simp only [Sem.bind, Sem.run]
    split
    · exact ih _ _
    · exact ih _ _
  | sys c k ih => exact ih _ _
  | program k ih => exact ih _ _
  | mark mk k ih => exact ih _
  | halt h => rfl

theorem run_pure {α : Type} (a : α) (w : World) : (pure a : Sem α).run P w = .ok a w := rfl

theorem bind_ok {α β : Type} {s : Sem α} {f : α → Sem β} {w w' : World} {a : α} (h : s.run P w = .ok a w') : (s >>= f).run P w = (f a).run P w' := by
  rw [Sem.run_bind, h]

theorem sizeT_some {t : TypeId} {n : Nat} (h : sizeT P t = some n) : ∃ i, P.info? t = some i ∧ i.size = n := by
  unfold sizeT at h
  split at h
  · rename_i i hi; cases h; exact ⟨i, hi, rfl⟩
  · simp at h

theorem run_sizeOf {t : TypeId} {n : Nat} (h : sizeT P t = some n) (w : World) : (sizeOf t).run P w = .ok n w := by
  obtain ⟨i, hi, rfl⟩ := sizeT_some h
  unfold sizeOf
  rw [bind_ok (run_typeInfo hi w)]; rfl

theorem run_isAgg {t : TypeId} {b : Bool} (h : aggT P t = some b) (w : World) : (isAgg t).run P w = .ok b w := by
  unfold aggT at h
  unfold isAgg
  split at h
  · rename_i hu; cases h; rw [bind_ok (run_underlying hu w)]; rfl
  · rename_i hu; cases h; rw [bind_ok (run_underlying hu w)]; rfl
  · rename_i d hns hna hu; cases h; rw [bind_ok (run_underlying hu w)]
    cases d <;> first | rfl | exact (hns _ rfl).elim | exact (hna _ _ rfl).elim
  · simp at h

theorem wideT_some {t : TypeId} {n : Nat} {agg : Bool} (h : wideT P t = some (n, agg)) : aggT P t = some agg ∧ ∃ z, sizeT P t = some z ∧ (agg = true → z = n) ∧ (agg = false → n = 1) := by
  unfold wideT at h
  cases ha : aggT P t with
  | none => rw [ha] at h; simp at h
  | some b =>
    cases hs : sizeT P t with
    | none => rw [ha, hs] at h; cases b <;> simp at h
    | some z =>
      rw [ha, hs] at h
      cases b <;> simp at h
      · obtain ⟨rfl, rfl⟩ := h; exact ⟨rfl, z, rfl, by simp, by simp⟩
      · obtain ⟨rfl, rfl⟩ := h; exact ⟨rfl, z, rfl, by simp, by simp⟩

/-! cells -/

theorem addr_add (b o n : Nat) : (⟨b, o, none⟩ : Addr).add n = ⟨b, o + n, none⟩ := by
  unfold Addr.add
  split
  · rename_i h; subst h; rfl
  · rfl

theorem addr_add_add (b o n k : Nat) : ((⟨b, o, none⟩ : Addr).add n).add k = ⟨b, o + n + k, none⟩ := by rw [addr_add, addr_add]

/-- the model's cells at a place -/
def At (hp : Hp) (b o : Nat) (vs : List Value) : Prop :=
  ∃ c e fz, hp[b]? = some (.cells c e fz) ∧ ∀ (i : Nat) v, vs[i]? = some v → c[o + i]? = some v

theorem At.cell {w : World} {b o : Nat} {vs : List Value} (h : At w.heap b o vs) {i : Nat} {v : Value} (hi : vs[i]? = some v) : w.cell? ⟨b, o + i, none⟩ = some v := by
  obtain ⟨c, e, fz, h1, h2⟩ := h
  simp [World.cell?, h1, h2 i v hi]

theorem run_load {w : World} {a : Addr} {v : Value} (h : w.cell? a = some v) : (Go.load a).run P w = .ok v w := by
  simp [Go.load, Sem.run, h]

theorem run_loadCellsFrom {w : World} {b o : Nat} {vs : List Value} (h : At w.heap b o vs) : ∀ (n i : Nat) (acc : Array Value), i + n = vs.length →
    (loadCellsFrom ⟨b, o, none⟩ i n acc).run P w = .ok (acc ++ (vs.drop i).toArray) w := by
  intro n
  induction n with
  | zero =>
    intro i acc hi
    have : vs.drop i = [] := List.drop_eq_nil_of_le (by omega)
    simp [loadCellsFrom, this, run_pure]
  | succ n ih =>
    intro i acc hi
    have hlt : i < vs.length := by omega
    have hv : vs[i]? = some vs[i] := by simp
    unfold loadCellsFrom
    rw [addr_add, bind_ok (run_load (h.cell hv)), ih (i + 1) _ (by omega)]
    rw [show vs.drop i = vs[i] :: vs.drop (i + 1) from List.drop_eq_getElem_cons hlt]
    congr 1
    apply Array.toList_inj.1
    simp

theorem run_loadCells {w : World} {b o : Nat} {vs : List Value} (h : At w.heap b o vs) : (loadCells ⟨b, o, none⟩ vs.length).run P w = .ok vs.toArray w := by
  unfold loadCells
  rw [run_loadCellsFrom h _ _ _ (by omega)]
  simp

/-! rows -/

theorem flatten_length {s : Nat} : ∀ {rs : List (List AV)}, (∀ r ∈ rs, r.length = s) → rs.flatten.length = rs.length * s
  | [], _ => by simp
  | r :: rs, h => by
    have := flatten_length (rs := rs) (fun q hq => h q (List.mem_cons_of_mem _ hq))
    simp only [List.flatten_cons, List.length_append, this, h r (List.mem_cons_self ..), List.length_cons, Nat.succ_mul]; omega

theorem flatten_drop {s : Nat} : ∀ {rs : List (List AV)} (k : Nat), (∀ r ∈ rs, r.length = s) → (rs.drop k).flatten = rs.flatten.drop (k * s)
  | rs, 0, _ => by simp
  | [], k + 1, _ => by simp
  | r :: rs, k + 1, h => by
    have := flatten_drop (rs := rs) k (fun q hq => h q (List.mem_cons_of_mem _ hq))
    have hr := h r (List.mem_cons_self ..)
    simp only [List.drop_succ_cons, List.flatten_cons, this]
    have e : (k + 1) * s = r.length + k * s := by rw [hr, Nat.succ_mul]; omega
    rw [e, List.drop_append, List.drop_eq_nil_of_le (as := r) (by omega)]
    simp

theorem flatten_take {s : Nat} : ∀ {rs : List (List AV)} (k : Nat), (∀ r ∈ rs, r.length = s) → (rs.take k).flatten = rs.flatten.take (k * s)
  | rs, 0, _ => by simp
  | [], k + 1, _ => by simp
  | r :: rs, k + 1, h => by
    have := flatten_take (rs := rs) k (fun q hq => h q (List.mem_cons_of_mem _ hq))
    have hr := h r (List.mem_cons_self ..)
    simp only [List.take_succ_cons, List.flatten_cons, this]
    have e : (k + 1) * s = r.length + k * s := by rw [hr, Nat.succ_mul]; omega
    rw [e, List.take_append, List.take_of_length_le (l := r) (by omega)]
    simp

theorem rowsAt_some {s : Nat} {rs : List (List AV)} {o n : Nat} {l : List AV} (hs : 0 < s) (hr : ∀ r ∈ rs, r.length = s) (h : rowsAt s rs o n = some l) :
    (0 < n → o + n ≤ rs.flatten.length) ∧ l = (rs.flatten.drop o).take n := by
  have hlen := flatten_length hr
  unfold rowsAt at h
  simp only [eqN_eq, dropL_eq, joinL_eq] at h
  split at h
  · rename_i h1 h2
    have h1 : n % s = 0 := by simpa using h1
    have h2 : o % s = 0 := by simpa using h2
    have e1 : n / s * s = n := Nat.div_mul_cancel (Nat.dvd_of_mod_eq_zero h1)
    have e2 : o / s * s = o := Nat.div_mul_cancel (Nat.dvd_of_mod_eq_zero h2)
    split at h
    · rename_i q hq
      obtain ⟨h3, rfl⟩ := takeL_some.1 hq
      cases h
      have hr' : ∀ r ∈ rs.drop (o / s), r.length = s := fun r hm => hr r (List.mem_of_mem_drop hm)
      rw [flatten_take _ hr', flatten_drop _ hr, e1, e2]
      refine ⟨?_, rfl⟩
      rw [List.length_drop] at h3
      rw [hlen]
      intro hn
      have hz : 0 < n / s := by
        rcases Nat.eq_zero_or_pos (n / s) with hz | hz
        · rw [hz] at e1; omega
        · exact hz
      have : (o / s + n / s) * s ≤ rs.length * s := Nat.mul_le_mul_right _ (by omega)
      rw [Nat.add_mul] at this; omega
    · simp at h
  · split at h
    · rename_i r q hq
      obtain ⟨h3, rfl⟩ := takeL_some.1 h
      have hlt : o / s < rs.length := by
        rcases Nat.lt_or_ge (o / s) rs.length with hk | hk
        · exact hk
        · rw [List.drop_eq_nil_of_le hk] at hq; simp at hq
      have hmem : r ∈ rs := List.mem_of_mem_drop (i := o / s) (by rw [hq]; exact List.mem_cons_self ..)
      have hrl := hr r hmem
      have hq' : (rs.drop (o / s)).flatten = r ++ q.flatten := by rw [hq]; simp
      rw [flatten_drop _ hr] at hq'
      have ho : o = o / s * s + o % s := by rw [Nat.mul_comm]; exact (Nat.div_add_mod o s).symm
      have hmod := Nat.mod_lt o hs
      rw [List.length_drop] at h3
      have hd : rs.flatten.drop o = r.drop (o % s) ++ q.flatten := by
        conv => lhs; rw [ho]
        rw [← List.drop_drop, hq', List.drop_append, show o % s - r.length = 0 by omega]; simp
      rw [hd]
      refine ⟨fun _ => ?_, ?_⟩
      · have : (o / s + 1) * s ≤ rs.length * s := Nat.mul_le_mul_right _ hlt
        rw [hlen]; rw [Nat.succ_mul] at this; omega
      · rw [List.take_append, show n - (r.drop (o % s)).length = 0 by rw [List.length_drop]; omega]; simp
    · simp at h

/-- a block's cells, whichever way they are kept -/
theorem Rel.cellsR {h : AH} {hp : Hp} (r : Rel E m h hp) {b o n : Nat} {cs : List AV} (hc : h.cellsAt b o n = some cs) :
    ∃ cb fl e ro, m b = some cb ∧ CellsR E m fl e ro cb hp ∧ h.roAt b = some ro ∧ (0 < n → o + n ≤ fl.length) ∧ cs = (fl.drop o).take n := by
  unfold AH.cellsAt at hc
  split at hc
  · rename_i fl e ro hb
    obtain ⟨cb, h1, h2⟩ := r.dom b _ hb
    rw [dropL_eq] at hc
    obtain ⟨h3, rfl⟩ := takeL_some.1 hc
    rw [List.length_drop] at h3
    exact ⟨cb, fl, e, ro, h1, h2, by simp [AH.roAt, hb], fun _ => by omega, rfl⟩
  · rename_i s rs e ro hb
    obtain ⟨cb, h1, h2, h3, h4⟩ := r.dom b _ hb
    obtain ⟨h5, h6⟩ := rowsAt_some h2 h3 hc
    exact ⟨cb, rs.flatten, e, ro, h1, h4, by simp [AH.roAt, hb], h5, h6⟩
  · simp at hc

theorem CellsR.at {cs : List AV} {e : Nat} {ro : Bool} {cb : CB} {hp : Hp} (h : CellsR E m cs e ro cb hp) {o n : Nat} (hn : 0 < n → o + n ≤ cs.length) :
    ∃ vs, LR E m ((cs.drop o).take n) vs ∧ vs.length = n ∧ (∀ x ∈ vs, leafV x = true) ∧ At hp cb.blk o vs := by
  obtain ⟨c, fz, h1, h2, h3, h4, h5⟩ := h
  rcases Nat.eq_zero_or_pos n with hz | hz
  · subst hz
    exact ⟨[], by simpa using LR.nil, rfl, by simp, c, e, fz, h1, by simp⟩
  have hn := hn hz
  have hlen : ((c.toList.drop o).take n).length = n := by
    rw [List.length_take, List.length_drop, Array.length_toList]; omega
  refine ⟨(c.toList.drop o).take n, ⟨?_, ?_⟩, hlen, ?_, c, e, fz, h1, ?_⟩
  · rw [hlen, List.length_take, List.length_drop]; omega
  · intro i a v ha hv
    rw [List.getElem?_take] at ha hv
    split at ha
    · rename_i hi
      rw [if_pos hi] at hv
      rw [List.getElem?_drop] at ha hv
      obtain ⟨y, hy, hr, _⟩ := h4 (o + i) a ha
      rw [Array.getElem?_toList, hy] at hv
      cases hv; exact hr
    · simp at ha
  · intro x hx
    obtain ⟨i, hi, rfl⟩ := List.mem_iff_getElem.1 hx
    have hi' : i < n := by rw [hlen] at hi; exact hi
    have hlt : o + i < cs.length := by omega
    obtain ⟨y, hy, _, hl⟩ := h4 (o + i) cs[o + i] (by simp [hlt])
    have : ((c.toList.drop o).take n)[i]? = some y := by
      rw [List.getElem?_take, if_pos hi', List.getElem?_drop, Array.getElem?_toList, hy]
    rw [List.getElem?_eq_getElem hi] at this
    cases this; exact hl
  · intro i v hv
    rw [List.getElem?_take] at hv
    split at hv
    · rw [List.getElem?_drop, Array.getElem?_toList] at hv
      exact hv
    · simp at hv

theorem Rel.at {h : AH} {hp : Hp} (r : Rel E m h hp) {b o n : Nat} {cs : List AV} (hc : h.cellsAt b o n = some cs) :
    ∃ cb vs, m b = some cb ∧ LR E m cs vs ∧ vs.length = n ∧ (∀ x ∈ vs, leafV x = true) ∧ At hp cb.blk o vs := by
  obtain ⟨cb, fl, e, ro, h1, h2, _, h4, rfl⟩ := r.cellsR hc
  obtain ⟨vs, h5, h6, h7, h8⟩ := h2.at h4
  exact ⟨cb, vs, h1, h5, h6, h7, h8⟩

theorem LR.agg {as : List AV} {vs : List Value} (h : LR E m as vs) (hl : ∀ x ∈ vs, leafV x = true) : VR E m (.agg as) (.agg vs.toArray) :=
  .agg (by simp [h.1]) (fun i v hv => hl v (by rw [List.getElem?_toArray] at hv; exact List.mem_of_getElem? hv)) (fun i a v ha hv => h.2 i a v ha (by simpa using hv))

theorem aload_sound {h : AH} {w : World} (r : Rel E m h w.heap) {t : TypeId} {n : Nat} {agg : Bool} (ht : wideT P t = some (n, agg)) {a v : AV} {x : Value}
    (hl : aload n agg a h = some v) (hx : VR E m a x) : ∃ y, (Instr.loadAt t x).run P w = .ok y w ∧ VR E m v y := by
  unfold aload at hl
  split at hl
  · rename_i b o
    split at hl
    · rename_i cs hcs
      obtain ⟨cb, vs, h1, h2, h3, h4, h5⟩ := r.at hcs
      cases hx with
      | ptr hm =>
        rw [h1] at hm; cases hm
        obtain ⟨ha, z, hz, hz1, hz2⟩ := wideT_some ht
        unfold Instr.loadAt Instr.sureAddr
        rw [bind_ok (run_pure _ w)]
        unfold loadVar
        rw [bind_ok (run_isAgg ha w)]
        cases agg with
        | true =>
          simp only [if_true]
          rw [bind_ok (run_sizeOf hz w), hz1 rfl, ← h3, bind_ok (run_loadCells h5)]
          simp only [ofCells, Option.some.injEq] at hl
          subst hl
          exact ⟨_, rfl, h2.agg h4⟩
        | false =>
          simp only [Bool.false_eq_true, if_false]
          rw [hz2 rfl] at h3
          obtain ⟨x, rfl⟩ := List.length_eq_one_iff.1 h3
          have hc := At.cell (w := w) h5 (i := 0) (v := x) rfl
          simp only [Nat.add_zero] at hc
          obtain ⟨a', rfl⟩ := List.length_eq_one_iff.1 (h2.1.trans h3)
          simp only [ofCells, Option.some.injEq] at hl
          subst hl
          exact ⟨x, run_load hc, h2.head⟩
    · simp at hl
  · simp at hl

/-! stores -/

theorem modify_cells {hp : Hp} {b : Nat} {c : Array Value} {e : Nat} {fz : Nat × Nat} (h : hp[b]? = some (.cells c e fz)) (f : Obj → Obj) :
    hp.modify b f = hp.setIfInBounds b (f (.cells c e fz)) := by
  apply Array.ext_getElem?
  intro i
  rw [Array.getElem?_modify, Array.getElem?_setIfInBounds]
  by_cases hi : b = i
  · subst hi
    have hb : b < hp.size := by
      rcases Nat.lt_or_ge b hp.size with q | q
      · exact q
      · rw [Array.getElem?_eq_none q] at h; simp at h
    rw [Array.getElem?_eq_getElem hb] at h
    have h : hp[b] = .cells c e fz := by simpa using h
    simp [hb, h]
  · simp [hi]

theorem setCell_eq {w : World} {b o : Nat} {c : Array Value} {e : Nat} {fz : Nat × Nat} (h : w.heap[b]? = some (.cells c e fz)) (v : Value) :
    w.setCell ⟨b, o, none⟩ v = { w with heap := w.heap.setIfInBounds b (.cells (c.setIfInBounds o v) e fz) } := by
  unfold World.setCell
  simp only
  rw [modify_cells h]
  rfl

theorem set_set (hp : Hp) (b : Nat) (x y : Obj) : (hp.setIfInBounds b x).setIfInBounds b y = hp.setIfInBounds b y := by
  apply Array.ext_getElem?
  intro i
  simp only [Array.getElem?_setIfInBounds, Array.size_setIfInBounds]
  split <;> simp_all

theorem set_same {hp : Hp} {b : Nat} {x : Obj} (h : hp[b]? = some x) : hp.setIfInBounds b x = hp := by
  apply Array.ext_getElem?
  intro i
  rw [Array.getElem?_setIfInBounds]
  split
  · rename_i hi
    subst hi
    split
    · exact h.symm
    · rename_i q; rw [Array.getElem?_eq_none (by omega)] at h; simp at h
  · rfl

theorem run_store {w : World} {b o : Nat} {c : Array Value} {e : Nat} {fz : Nat × Nat} (h : w.heap[b]? = some (.cells c e fz)) (ho : o < c.size)
    (hf : ¬ (fz.1 ≤ o ∧ o < fz.2)) {v : Value} (hv : leafV v = true) :
    (Go.store ⟨b, o, none⟩ v).run P w = .ok () { w with heap := w.heap.setIfInBounds b (.cells (c.setIfInBounds o v) e fz) } := by
  have hc : w.cell? ⟨b, o, none⟩ = some c[o] := by simp [World.cell?, h, ho]
  have hz : w.frozen? ⟨b, o, none⟩ = false := by simp [World.frozen?, h]; omega
  unfold Go.store
  cases v <;> first | (simp [leafV] at hv; done) | (simp [Sem.run, hc, hz, setCell_eq h])

theorem run_storeCells {b : Nat} {e : Nat} {fz : Nat × Nat} : ∀ (vs : List Value) (w : World) (o i : Nat) (c : Array Value), w.heap[b]? = some (.cells c e fz) →
    o + i + vs.length ≤ c.size → (∀ k, o + i ≤ k → k < o + i + vs.length → ¬ (fz.1 ≤ k ∧ k < fz.2)) → (∀ x ∈ vs, leafV x = true) →
    ∃ c', (storeCells ⟨b, o, none⟩ vs i).run P w = .ok () { w with heap := w.heap.setIfInBounds b (.cells c' e fz) } ∧ c'.size = c.size ∧
      ∀ j, c'[j]? = if o + i ≤ j ∧ j < o + i + vs.length then vs[j - (o + i)]? else c[j]? := by
  intro vs
  induction vs with
  | nil =>
    intro w o i c h _ _ _
    refine ⟨c, ?_, rfl, fun j => by simp; omega⟩
    simp [storeCells, run_pure, set_same h]
  | cons v vs ih =>
    intro w o i c h hs hf hl
    unfold storeCells
    rw [addr_add]
    simp only [List.length_cons] at hs hf
    rw [bind_ok (run_store h (by omega) (hf (o + i) (by omega) (by omega)) (hl v (List.mem_cons_self ..)))]
    have hb : b < w.heap.size := by
      rcases Nat.lt_or_ge b w.heap.size with q | q
      · exact q
      · rw [Array.getElem?_eq_none q] at h; simp at h
    obtain ⟨c', h1, h2, h3⟩ := ih { w with heap := w.heap.setIfInBounds b (.cells (c.setIfInBounds (o + i) v) e fz) } o (i + 1) (c.setIfInBounds (o + i) v)
      (by simp [hb]) (by simp; omega) (fun k h1 h2 => hf k (by omega) (by omega)) (fun x hx => hl x (List.mem_cons_of_mem _ hx))
    refine ⟨c', ?_, by simpa using h2, ?_⟩
    · rw [h1]; simp only [set_set]
    · intro j
      rw [h3 j, Array.getElem?_setIfInBounds]
      by_cases hj : o + (i + 1) ≤ j ∧ j < o + (i + 1) + vs.length
      · rw [if_pos hj, if_pos (by simp; omega), show j - (o + i) = (j - (o + (i + 1))) + 1 by omega]
        simp
      · rw [if_neg hj]
        by_cases hj2 : o + i = j
        · rw [if_pos hj2, if_pos (by omega), if_pos (by simp; omega), show j - (o + i) = 0 by omega]; rfl
        · rw [if_neg hj2, if_neg (by simp; omega)]

/-- the model's memory with cells stored -/
theorem CellsR.write {cs : List AV} {e : Nat} {cb : CB} {w : World} (h : CellsR E m cs e false cb w.heap) {o : Nat} {vs : List AV} {xs : List Value}
    (ho : o + vs.length ≤ cs.length) (hv : LR E m vs xs) (hl : ∀ x ∈ xs, leafV x = true) :
    ∃ ob, (storeCells ⟨cb.blk, o, none⟩ xs).run P w = .ok () { w with heap := w.heap.setIfInBounds cb.blk ob } ∧
      CellsR E m (cs.take o ++ vs ++ cs.drop (o + vs.length)) e false cb (w.heap.setIfInBounds cb.blk ob) := by
  obtain ⟨c, fz, h1, h2, h3, h4, h5⟩ := h
  have hlen : xs.length = vs.length := hv.1.symm
  obtain ⟨c', g1, g2, g3⟩ := run_storeCells (P := P) xs w o 0 c h1 (by omega) (fun k _ hk => by have := h5 rfl; omega) hl
  have hb : cb.blk < w.heap.size := by
    rcases Nat.lt_or_ge cb.blk w.heap.size with q | q
    · exact q
    · rw [Array.getElem?_eq_none q] at h1; simp at h1
  refine ⟨.cells c' e fz, g1, c', fz, by simp [hb], by omega, ?_, ?_, h5⟩
  · simp only [List.length_append, List.length_take, List.length_drop]; omega
  · intro i a ha
    rw [g3 (i)]
    by_cases h6 : i < o
    · rw [if_neg (by omega)]
      rw [List.append_assoc, List.getElem?_append_left (by simp; omega), List.getElem?_take, if_pos h6] at ha
      exact h4 i a ha
    · by_cases h7 : i < o + vs.length
      · rw [if_pos (by omega)]
        rw [List.append_assoc, List.getElem?_append_right (by simp; omega), List.getElem?_append_left (by simp; omega)] at ha
        have e1 : i - (cs.take o).length = i - o := by simp; omega
        rw [e1] at ha
        have e2 : i - (o + 0) = i - o := by omega
        rw [e2]
        have hlt : i - o < xs.length := by omega
        exact ⟨xs[i - o], by simp [hlt], hv.2 _ a _ ha (by simp [hlt]), hl _ (by simp)⟩
      · rw [if_neg (by omega)]
        rw [List.getElem?_append_right (by simp; omega), List.getElem?_drop] at ha
        have e1 : o + vs.length + (i - (cs.take o ++ vs).length) = i := by simp; omega
        rw [e1] at ha
        exact h4 i a ha
end
end Go.Ab
