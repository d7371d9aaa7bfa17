/-
  The abstract machine's append.
-/
import Derived.Test.YtpbcecibooaebaaGreatDoorAbAct3
namespace Go.Ab
open Go

section
variable {E : Cx} {m : Mp} {P : Program}

theorem growBy_le (need : Nat) : ∀ (r c : Nat), c < need → Builtin.growBy need r c ≤ need + (need + 768) / 4 := by
  intro r
  induction r with
  | zero => intro c h; simp only [Builtin.growBy]; omega
  | succ r ih =>
    intro c h
    simp only [Builtin.growBy]
    rw [if_neg (by omega)]
    by_cases h2 : c + (c + 768) / 4 < need
    · exact ih _ h2
    · have : ∀ r c, need ≤ c → Builtin.growBy need r c = c := by
        intro r c h
        cases r with
        | zero => rfl
        | succ r => simp only [Builtin.growBy]; rw [if_pos h]
      rw [this r _ (by omega)]
      omega

theorem nextcap_le {need old : Nat} (h : old < need) : Builtin.nextslicecap need old ≤ 2 * need + 192 := by
  unfold Builtin.nextslicecap
  split
  · omega
  · split
    · omega
    · have := growBy_le need 4 old h
      omega

/-- what is appended, as the model has it -/
structure Appd (P : Program) (w : World) (e s bytes : Nat) (ts : Array TypeId) (X : Value) (zb : Bool) (n : Nat) (new : Array Value) : Prop where
  ty : ∃ u d, ts[1]? = some u ∧ P.underlying u = some d ∧ (zb = true → ∃ k, d = .int k) ∧ (zb = false → ∀ k, d ≠ .int k)
  zs : zb = true → ∃ k, X = .int k (.ofNat n) ∧ n ≤ 1099511627776 ∧ n * bytes ≤ 1099511627776
  ln : zb = false → (Builtin.lenOf X).run P w = .ok n w
  cells : ∀ w', w'.heap = w.heap → (if (!zb) = true then Builtin.firstCells (s + 1) n X else if n * (s + 1) = 0 then pure #[] else do
    let z ← zeroValue e
    pure (Builtin.zeroCells z.cells n)).run P w' = .ok new w'

theorem wrap_i64 {n : Nat} (h : n ≤ 1099511627776) : IntKind.i64.wrap (Int.ofNat n) = (n : Int) := by
  simp [IntKind.wrap, IntKind.bits, IntKind.signed]; omega

theorem bytesT_some {t : TypeId} {n : Nat} (h : bytesT P t = some n) : ∃ i, P.info? t = some i ∧ i.bytes = n := by
  unfold bytesT at h
  split at h
  · rename_i i hi; cases h; exact ⟨i, hi, rfl⟩
  · simp at h

theorem append_in {t e : TypeId} {s bytes : Nat} (hu : P.underlying t = some (.slice e)) (hs : sizeT P e = some (s + 1)) (hb : bytesT P e = some bytes) {ts : Array TypeId} (hts : ts[0]? = some t)
    (ty : TypeId) {base : Option Addr} {l c n : Nat} {X : Value} {w w' : World} {zb : Bool} {new : Array Value} (ha : Appd P w e s bytes ts X zb n new) (hle : l + n ≤ c)
    (hst : ∀ a, base = some a → (storeCells (a.add (l * (s + 1))) new.toList).run P w = .ok () w') (hn : base = none → w' = w) :
    (Builtin.append_ ts ty #[.slice base l c, X]).run P w = .ok (.slice base (l + n) c) w' := by
  obtain ⟨u, d, hus, hd, hzt, hzf⟩ := ha.ty
  obtain ⟨ti, hti, rfl⟩ := bytesT_some hb
  have hcells := ha.cells w rfl
  unfold Builtin.append_
  simp only [hts, hus]
  simp only [List.size_toArray, List.length_cons, List.length_nil, Nat.zero_add, Nat.reduceAdd, Nat.reduceLT, getElem?_pos, List.getElem_toArray, List.getElem_cons_zero, List.getElem_cons_succ]
  rw [bind_ok (run_underlying hu w)]
  simp only
  rw [bind_ok (run_sizeOf hs w)]
  rw [bind_ok (run_underlying hd w), bind_ok (run_pure _ w)]
  have fin : (match base with
      | some a => storeCells (a.add (l * (s + 1))) new.toList >>= fun _ => (pure (Value.slice base (l + n) c) : Sem Value)
      | none => (pure (Value.slice base (l + n) c) : Sem Value)).run P w = .ok (.slice base (l + n) c) w' := by
    cases base with
    | none => rw [hn rfl]; rfl
    | some a => simp only; rw [bind_ok (hst a rfl)]; rfl
  cases zb with
  | false =>
    have hzf := hzf rfl
    rw [if_neg (by cases d <;> first | (simp; done) | exact absurd rfl (hzf _))]
    rw [bind_ok (ha.ln rfl)]
    rw [if_pos hle]
    simp only [Bool.not_false, if_true] at hcells
    rw [if_pos (by cases d <;> first | (simp; done) | exact absurd rfl (hzf _))]
    rw [bind_ok hcells]
    cases base <;> exact fin
  | true =>
    obtain ⟨k, rfl, h1, h2⟩ := ha.zs rfl
    obtain ⟨k', rfl⟩ := hzt rfl
    simp only [if_true]
    have hi : (asInt (.int k (.ofNat n))).run P w = .ok (Int.ofNat n) w := rfl
    rw [bind_ok hi]
    rw [if_neg (by rw [wrap_i64 h1]; omega)]
    rw [bind_ok (run_typeInfo hti w)]
    have e2 : (n : Int) * (ti.bytes : Int) = ((n * ti.bytes : Nat) : Int) := by simp
    rw [if_neg (by rw [wrap_i64 h1, e2]; omega)]
    rw [bind_ok (run_pure _ w), wrap_i64 h1]
    simp only [Int.toNat_natCast]
    rw [if_pos hle]
    rw [bind_ok hcells]
    cases base <;> exact fin

theorem append_out {t e : TypeId} {s bytes : Nat} (hu : P.underlying t = some (.slice e)) (hs : sizeT P e = some (s + 1)) (hb : bytesT P e = some bytes) {zv : Value}
    (hzv : ∀ w, (zeroValue e).run P w = .ok zv w) {ts : Array TypeId} (hts : ts[0]? = some t)
    (ty : TypeId) {base : Option Addr} {l c n : Nat} {X : Value} {w : World} {zb : Bool} {old new : Array Value} (ha : Appd P w e s bytes ts X zb n new) (hgt : ¬ l + n ≤ c)
    (hg : growOk (l + n) bytes = true) (hold : ∀ w', w'.heap = w.heap → (Builtin.firstCells (s + 1) l (.slice base l c)).run P w' = .ok old w') :
    ∃ cap, l + n ≤ cap ∧ (Builtin.append_ ts ty #[.slice base l c, X]).run P w = .ok (.slice (some ⟨w.heap.size, 0, none⟩) (l + n) cap)
      { w with drawn := w.drawn + 1, heap := w.heap.push (.cells (old ++ new ++ Builtin.zeroCells zv.cells (cap - (l + n))) e) } := by
  obtain ⟨u, d, hus, hd, hzt, hzf⟩ := ha.ty
  obtain ⟨ti, hti, rfl⟩ := bytesT_some hb
  obtain ⟨cap, k1, k2⟩ := run_cap (P := P) (l + n) c e w
  let w1 : World := { w with drawn := w.drawn + 1 }
  have hcells := ha.cells w1 rfl
  have hold1 := hold w1 rfl
  refine ⟨cap, k2, ?_⟩
  unfold growOk at hg
  simp only [leN_eq, eqN_eq, Bool.and_eq_true, decide_eq_true_eq, Bool.not_eq_true', decide_eq_false_iff_not] at hg
  obtain ⟨hg1, hg2⟩ := hg
  have hneed : 1 ≤ l + n := by omega
  have hb2 : ti.bytes ≤ 1099511627776 := Nat.le_trans (Nat.le_mul_of_pos_left _ hneed) hg1
  have hnl : l + n ≤ 1099511627776 := Nat.le_trans (Nat.le_mul_of_pos_right _ (by omega)) hg1
  have hc1 : ¬ (((l + n : Nat) : Int) > IntKind.i64.max ∧ (zb = true ∨ ti.bytes = 0)) := by
    intro h
    have : IntKind.i64.max = 9223372036854775807 := rfl
    rw [this] at h
    omega
  have hc2 : ¬ (Builtin.nextslicecap (l + n) c * ti.bytes > 2 ^ 48) := by
    have h1 := nextcap_le (need := l + n) (old := c) (by omega)
    have h2 := Nat.mul_le_mul_right ti.bytes h1
    have h3 : (2 * (l + n) + 192) * ti.bytes = 2 * ((l + n) * ti.bytes) + 192 * ti.bytes := by rw [Nat.add_mul, Nat.mul_assoc]
    omega
  have k1' : (choose (.appendCap (l + n) c e)).run P w = .ok cap w1 := k1
  unfold Builtin.append_
  simp only [hts, hus]
  simp only [List.size_toArray, List.length_cons, List.length_nil, Nat.zero_add, Nat.reduceAdd, Nat.reduceLT, getElem?_pos, List.getElem_toArray, List.getElem_cons_zero, List.getElem_cons_succ]
  rw [bind_ok (run_underlying hu w)]
  simp only
  rw [bind_ok (run_sizeOf hs w)]
  rw [bind_ok (run_underlying hd w), bind_ok (run_pure _ w)]
  cases zb with
  | false =>
    have hzf := hzf rfl
    rw [if_neg (by cases d <;> first | (simp; done) | exact absurd rfl (hzf _))]
    rw [bind_ok (ha.ln rfl)]
    rw [if_neg hgt]
    rw [bind_ok (run_typeInfo hti w)]
    rw [if_neg (fun h => by have := h.1; have e9 : IntKind.i64.max = 9223372036854775807 := rfl; rw [e9] at this; omega)]
    rw [bind_ok (run_typeInfo hti w)]
    rw [if_neg hc2]
    rw [bind_ok k1', bind_ok (run_typeInfo hti w1), bind_ok (run_askRoom _ w1), bind_ok hold1]
    simp only [Bool.not_false, if_true] at hcells
    rw [if_pos (by cases d <;> first | (simp; done) | exact absurd rfl (hzf _))]
    rw [bind_ok hcells, bind_ok (hzv w1), bind_ok (run_newRow _ _ w1)]
    rfl
  | true =>
    obtain ⟨k, rfl, h1, h2⟩ := ha.zs rfl
    obtain ⟨k', rfl⟩ := hzt rfl
    simp only [if_true]
    have hi : (asInt (.int k (.ofNat n))).run P w = .ok (Int.ofNat n) w := rfl
    rw [bind_ok hi]
    rw [if_neg (by rw [wrap_i64 h1]; omega)]
    rw [bind_ok (run_typeInfo hti w)]
    have e2 : (n : Int) * (ti.bytes : Int) = ((n * ti.bytes : Nat) : Int) := by simp
    rw [if_neg (by rw [wrap_i64 h1, e2]; omega)]
    rw [bind_ok (run_pure _ w), wrap_i64 h1]
    simp only [Int.toNat_natCast]
    rw [if_neg hgt]
    rw [bind_ok (run_typeInfo hti w)]
    rw [if_neg (fun h => by have := h.1; have e9 : IntKind.i64.max = 9223372036854775807 := rfl; rw [e9] at this; omega)]
    rw [bind_ok (run_typeInfo hti w)]
    rw [if_neg hc2]
    rw [bind_ok k1', bind_ok (run_typeInfo hti w1), bind_ok (run_askRoom _ w1), bind_ok hold1]
    rw [bind_ok hcells, bind_ok (hzv w1), bind_ok (run_newRow _ _ w1)]
    rfl
end
end Go.Ab
