/-
  The abstract machine's instructions that make new blocks.
-/
import Derived.Test.YtpbcecibooaebaaGreatDoorAbPure5
namespace Go.Ab
open Go

section
variable {E : Cx} {m : Mp} {P : Program}

/-- what of the world stays -/
structure Same (w w' : World) : Prop where
  tape : w'.tape = w.tape
  os : w'.os = w.os
  output : w'.output = w.output

theorem Same.refl (w : World) : Same w w := ⟨rfl, rfl, rfl⟩
theorem Same.trans {w w1 w2 : World} (h : Same w w1) (h' : Same w1 w2) : Same w w2 := ⟨h'.1.trans h.1, h'.2.trans h.2, h'.3.trans h.3⟩

/-- what an act leaves behind -/
def PostX (fl : Option Nat) (E : Cx) (m : Mp) (h : AH) (w : World) (v : AV) (h' : AH) (x : Value) (w' : World) : Prop :=
  ∃ m', VR E m' v x ∧ Rel E m' h' w'.heap ∧ FrX fl m h w.heap m' h' w'.heap ∧ Same w w'

abbrev Post := PostX none

theorem PostX.lift {fl : Option Nat} {h h' : AH} {w w' : World} {v : AV} {x : Value} (p : PostX fl E m h w v h' x w') (hf : ∀ b, fl = some b → h.next ≤ b) : Post E m h w v h' x w' :=
  let ⟨m', g1, g2, g3, g4⟩ := p; ⟨m', g1, g2, g3.lift hf, g4⟩

theorem Post.of {h : AH} {w w' : World} (hh : w'.heap = w.heap) (hs : Same w w') (r : Rel E m h w.heap) {v : AV} {x : Value} (hv : VR E m v x) : Post E m h w v h x w' :=
  ⟨m, hv, by rw [hh]; exact r, by rw [hh]; exact Fr.refl .., hs⟩

theorem new_cells {h h' : AH} {hp : Hp} (r : Rel E m h hp) {b : Nat} {cs : List AV} {e : Nat} (na : NewAt m h b (.cells cs e false) h') {c : Array Value} {vs rest : List Value} (hc : c.toList = vs ++ rest) (hl : LR E m cs vs)
    (hx : ∀ x ∈ vs, leafV x = true) {fz : Nat × Nat} (hz : fz.1 = fz.2 ∨ c.size ≤ fz.1) :
    ∃ m', Rel E m' h' (hp.push (.cells c e fz)) ∧ FrX (some b) m h hp m' h' (hp.push (.cells c e fz)) ∧ m' b = some ⟨hp.size, c.size⟩ := by
  refine r.newAt na (fun m' hm => ⟨c, fz, by simp, rfl, ?_, ?_, fun _ => hz⟩)
  · have : c.size = vs.length + rest.length := by rw [← Array.length_toList, hc, List.length_append]
    show cs.length ≤ c.size
    rw [this, hl.1]; omega
  · intro i a ha
    have hi : i < vs.length := by
      rw [← hl.1]
      rcases Nat.lt_or_ge i cs.length with q | q
      · exact q
      · rw [List.getElem?_eq_none q] at ha; simp at ha
    have : c[i]? = some vs[i] := by
      rw [← Array.getElem?_toList, hc, List.getElem?_append_left hi]; simp [hi]
    exact ⟨vs[i], this, (hl.2 i a _ ha (by simp [hi])).mono hm, hx _ (List.getElem_mem hi)⟩

theorem new_rows {h h' : AH} {hp : Hp} (r : Rel E m h hp) {b : Nat} {s : Nat} {rs : List (List AV)} {e : Nat} (na : NewAt m h b (.rows s rs e false) h') (hs : 0 < s) (hr : ∀ r ∈ rs, r.length = s) {c : Array Value} (hl : LR E m rs.flatten c.toList)
    (hx : ∀ x ∈ c.toList, leafV x = true) :
    ∃ m', Rel E m' h' (hp.push (.cells c e)) ∧ FrX (some b) m h hp m' h' (hp.push (.cells c e)) ∧ m' b = some ⟨hp.size, c.size⟩ := by
  refine r.newAt na (fun m' hm => ⟨hs, hr, c, (0, 0), by simp, rfl, ?_, ?_, fun _ => .inl rfl⟩)
  · show rs.flatten.length ≤ c.size
    rw [hl.1]; simp
  · intro i a ha
    have hi : i < c.size := by
      have := hl.1
      rcases Nat.lt_or_ge i rs.flatten.length with q | q
      · rw [this] at q; simpa using q
      · rw [List.getElem?_eq_none q] at ha; simp at ha
    exact ⟨c[i], by simp [hi], (hl.2 i a _ ha (by simp [hi])).mono hm, hx _ (by simp)⟩

theorem run_newObj (o : Obj) (w : World) : (newObj o).run P w = .ok w.heap.size { w with heap := w.heap.push o } := rfl
theorem run_newRow (e : Nat) (c : Array Value) (w : World) : (newRow e c).run P w = .ok ⟨w.heap.size, 0, none⟩ { w with heap := w.heap.push (.cells c e) } := rfl

theorem run_choose {q : Question} (hq : q.forced = false) (w : World) : (choose q).run P w = .ok (q.cut (w.tape w.drawn q)) { w with drawn := w.drawn + 1 } := by
  simp [choose, Sem.run, hq]

theorem run_cap (need old : Nat) (e : Nat) (w : World) : ∃ c, (choose (.appendCap need old e)).run P w = .ok c { w with drawn := w.drawn + 1 } ∧ need ≤ c :=
  ⟨_, run_choose rfl w, by simp [Question.cut]⟩

theorem run_askRoom (n : Nat) (w : World) : (askRoom n).run P w = .ok () w := by
  unfold askRoom
  split
  · rfl
  · rfl

/-! zeros -/

theorem range_map {zs : Array Value} {s : Nat} (hs : zs.size = s) (hp : 0 < s) : ∀ n, ((Array.range (n * s)).map fun i => zs[i % s]!).toList = (List.replicate n zs.toList).flatten := by
  intro n
  apply List.ext_getElem?
  intro i
  have hl : (List.replicate n zs.toList).flatten.length = n * s := by simp [hs]
  by_cases hi : i < n * s
  · rw [Array.getElem?_toList, Array.getElem?_map, Array.getElem?_range, if_pos hi]
    have hm : i % s < zs.size := by rw [hs]; exact Nat.mod_lt _ hp
    have key : ∀ n i, i < n * s → (List.replicate n zs.toList).flatten[i]? = zs[i % s]? := by
      intro n
      induction n with
      | zero => intro i h; simp at h
      | succ n ih =>
        intro i h
        have h' : i < n * s + s := by rw [Nat.succ_mul] at h; exact h
        rw [List.replicate_succ, List.flatten_cons]
        by_cases h1 : i < s
        · rw [List.getElem?_append_left (by simp [hs, h1]), Nat.mod_eq_of_lt h1, Array.getElem?_toList]
        · rw [List.getElem?_append_right (by simp [hs]; omega), ih (i - zs.toList.length) (by simp only [Array.length_toList, hs]; omega)]
          simp only [Array.length_toList, hs]
          rw [← Nat.mod_eq_sub_mod (by omega)]
    rw [key n i hi]
    simp [hm]
  · rw [List.getElem?_eq_none (l := (List.replicate n zs.toList).flatten) (by rw [hl]; omega), List.getElem?_eq_none (by simp; omega)]

theorem LR.rep {zs : List AV} {vs : List Value} (h : LR E m zs vs) : ∀ n, LR E m (Ab.rep zs n) (List.replicate n vs).flatten
  | 0 => LR.nil
  | n + 1 => by rw [rep_succ, List.replicate_succ, List.flatten_cons]; exact h.append (LR.rep h n)

theorem leaf_rep {vs : List Value} (h : ∀ x ∈ vs, leafV x = true) (n : Nat) : ∀ x ∈ (List.replicate n vs).flatten, leafV x = true := by
  intro x hx
  obtain ⟨l, hl, hx2⟩ := List.mem_flatten.1 hx
  rw [(List.mem_replicate.1 hl).2] at hx2
  exact h x hx2

theorem alloc_sound {h h' : AH} {w : World} (r : Rel E m h w.heap) {b e : Nat} {z : List AV} (na : NewAt m h b (.cells z e false) h') (hz : zeroOf P e = some z) :
    ∃ x w', (Instr.alloc e true (.tuple #[])).run P w = .ok x w' ∧ PostX (some b) E m h w (.ptr b 0) h' x w' := by
  obtain ⟨i, v, h1, h2, h3, h4⟩ := zeroOf_sound (E := E) (m := m) hz
  obtain ⟨m', g1, g2, g3⟩ := new_cells r na (c := v.cells) (rest := []) (by simp) h3 h4 (fz := (0, 0)) (.inl rfl)
  refine ⟨_, { w with heap := w.heap.push (.cells v.cells e) }, ?_, m', .ptr g3, g1, g2, ⟨rfl, rfl, rfl⟩⟩
  unfold Instr.alloc
  rw [bind_ok (run_zeroValue h1 h2 w)]
  rfl

theorem box_sound {h h' : AH} {w : World} (r : Rel E m h w.heap) {b e : Nat} {a : AV} {v : Value} (na : NewAt m h b (.cells a.cells e false) h') (hv : VR E m a v) (hh : a.held = true) :
    ∃ x w', (Instr.box e v).run P w = .ok x w' ∧ PostX (some b) E m h w (.ptr b 0) h' x w' := by
  obtain ⟨h3, h4⟩ := hv.cells hh
  obtain ⟨m', g1, g2, g3⟩ := new_cells r na (c := v.cells) (rest := []) (by simp) h3 h4 (fz := (0, 0)) (.inl rfl)
  exact ⟨_, _, rfl, m', .ptr g3, g1, g2, ⟨rfl, rfl, rfl⟩⟩

theorem zeros_sound {e s : Nat} {z : List AV} (hz : zeroOf P e = some z) (hl : z.length = s + 1) (n : Nat) (w : World) :
    ∃ zs : Array Value, ((n * (s + 1) = 0 ∧ zs = #[]) ∨ (n * (s + 1) ≠ 0 ∧ ∃ v, (zeroValue e).run P w = .ok v w ∧ zs = v.cells)) ∧
      LR E m (rep z n) ((Array.range (n * (s + 1))).map (zs[· % zs.size]!)).toList ∧ ∀ x ∈ ((Array.range (n * (s + 1))).map (zs[· % zs.size]!)).toList, leafV x = true := by
  obtain ⟨i, v, h1, h2, h3, h4⟩ := zeroOf_sound (E := E) (m := m) hz
  by_cases hn : n * (s + 1) = 0
  · have : n = 0 := by rcases Nat.mul_eq_zero.1 hn with q | q <;> omega
    subst this
    refine ⟨#[], .inl ⟨hn, rfl⟩, ?_, by simp⟩
    have e0 : ((Array.range (0 * (s + 1))).map ((#[] : Array Value)[· % (#[] : Array Value).size]!)).toList = [] := by simp
    rw [e0]
    exact LR.nil
  · refine ⟨v.cells, .inr ⟨hn, v, run_zeroValue h1 h2 w, rfl⟩, ?_⟩
    · have hs : v.cells.size = s + 1 := by rw [← hl, h3.1]; simp
      rw [hs, range_map hs (by omega)]
      exact ⟨h3.rep n, leaf_rep h4 n⟩

theorem bslice_sound (hg : Globs P m) {h h' : AH} {w : World} (r : Rel E m h w.heap) {t : TypeId} {len : Nat} {ps : Array (Nat × Operand)} {i : AI} (hc : cOp P (.buildSlice t len ps) = some i)
    {tm : FT} {a : Act} (hf : FR E m tm a.tmps) {b : Nat} {v : AV} {X : Blk} (hv : i.newBlk.f b tm = some (v, X)) (na : NewAt m h b X h') :
    ∃ x w', (Instr.buildSlice t len (ps.map fun (i, x) => (i, a.eval x))).run P w = .ok x w' ∧ PostX (some b) E m h w v h' x w' := by
  simp only [cOp] at hc
  split at hc <;> first | (simp at hc; done) | skip
  rename_i e hu
  split at hc <;> first | (simp at hc; done) | skip
  rename_i s z hs hz
  split at hc <;> first | (simp at hc; done) | skip
  rename_i hl
  split at hc <;> first | (simp at hc; done) | skip
  rename_i qs hq
  cases hc
  simp only [AI.newBlk] at hv
  cases hcs : afill tm qs (rep z len) with
  | none => rw [hcs] at hv; simp [abslice] at hv
  | some cs =>
    rw [hcs] at hv
    simp only [abslice, Option.some.injEq, Prod.mk.injEq] at hv
    obtain ⟨rfl, rfl⟩ := hv
    obtain ⟨zs, k1, k2, k3⟩ := zeros_sound (E := E) (m := m) hz hl.1 len w
    obtain ⟨ys, f1, f2, f3⟩ := fill_sound hg hf hq hcs k2 k3
    obtain ⟨m', g1, g2, g3⟩ := new_cells r na (c := ys) (rest := []) (by simp) f2 f3 (fz := (0, 0)) (.inl rfl)
    have hlen : ys.size = len * (s + 1) := by
      rw [← Array.length_toList, ← f2.1]
      have := f2.1
      have hal : ∀ {ps : List ((Nat × Nat) × Opd)} {cells cs : List AV}, afill tm ps cells = some cs → cs.length = cells.length := by
        intro ps
        induction ps with
        | nil => intro cells cs h; cases (show some cells = some cs from h); rfl
        | cons p ps ih =>
          intro cells cs h
          obtain ⟨⟨off, size⟩, x⟩ := p
          rw [afill_cons] at h
          split at h <;> first | (simp at h; done) | skip
          rename_i c' _ q2 _
          obtain ⟨q3, rfl⟩ := spliceL_some q2
          rw [ih h]; simp; omega
      rw [hal hcs, rep_length, hl.1]
    refine ⟨_, { w with heap := w.heap.push (.cells ys e) }, ?_, m', .slice g3 (Nat.le_refl _) (Nat.le_refl _) (fun _ => rfl) (by simp [hlen]), g1, g2, ⟨rfl, rfl, rfl⟩⟩
    unfold Instr.buildSlice
    rw [bind_ok (run_underlying hu w)]
    simp only
    rw [bind_ok (run_sizeOf hs w)]
    rw [if_neg (by have := hl.2; simpa using this)]
    have e1 : (ps.map fun (p : Nat × Operand) => (p.1, a.eval p.2)).toList = ps.toList.map fun p => (p.1, a.eval p.2) := by simp
    rcases k1 with ⟨q1, rfl⟩ | ⟨q1, v, q2, rfl⟩
    · rw [if_pos q1, bind_ok (run_pure _ w), e1, f1]
      rfl
    · rw [if_neg q1, bind_ok q2, bind_ok (run_pure _ w), e1, f1]
      rfl

theorem mkslice_sound {h h' : AH} {w : World} (r : Rel E m h w.heap) {t : TypeId} {e s bytes : Nat} {z : List AV} (hu : P.underlying t = some (.slice e)) (hs : sizeT P e = some (s + 1))
    (hb : bytesT P e = some bytes) (hz : zeroOf P e = some z) (hl : z.length = s + 1) {l c : AV} {L C : Value} (hL : VR E m l L) (hC : VR E m c C) {v : AV} {b : Nat} {X : Blk}
    (hv : amkslice e (s + 1) bytes z l c b = some (v, X)) (na : NewAt m h b X h') :
    ∃ x w', (Instr.makeSlice t L C).run P w = .ok x w' ∧ PostX (some b) E m h w v h' x w' := by
  unfold amkslice at hv
  split at hv <;> first | (simp at hv; done) | skip
  rename_i k l k' c
  split at hv <;> first | (simp at hv; done) | skip
  rename_i q1 q2 q3
  have q1 : l ≤ c := by simpa using q1
  have q2 : bytes * c ≤ 140737488355328 := by simpa using q2
  have q3 : c < 4611686018427387904 := by simpa using q3
  cases hL; cases hC
  obtain ⟨zs, k1, k2, k3⟩ := zeros_sound (E := E) (m := m) hz hl c w
  have hsz : ((Array.range (c * (s + 1))).map (zs[· % zs.size]!)).size = c * (s + 1) := by simp
  unfold bytesT at hb
  split at hb <;> first | (simp at hb; done) | skip
  rename_i ti hti
  cases hb
  have wl : IntKind.i64.wrap (Int.ofNat l) = (l : Int) := by
    simp [IntKind.wrap, IntKind.bits, IntKind.signed]; omega
  have wc : IntKind.i64.wrap (Int.ofNat c) = (c : Int) := by
    simp [IntKind.wrap, IntKind.bits, IntKind.signed]; omega
  have hrun : ∀ w', w' = { w with heap := w.heap.push (.cells ((Array.range (c * (s + 1))).map (zs[· % zs.size]!)) e) } →
      (Instr.makeSlice t (.int k (.ofNat l)) (.int k' (.ofNat c))).run P w = .ok (.slice (some ⟨w.heap.size, 0, none⟩) l c) w' := by
    rintro w' rfl
    unfold Instr.makeSlice
    rw [bind_ok (run_underlying hu w)]
    simp only
    have a1 : (asInt (.int k (.ofNat l))).run P w = .ok (Int.ofNat l) w := rfl
    have a2 : (asInt (.int k' (.ofNat c))).run P w = .ok (Int.ofNat c) w := rfl
    rw [bind_ok a1, bind_ok a2, bind_ok (run_typeInfo hti w)]
    simp only [wl, wc]
    have hn : ((decide ((c : Int) < 0) || decide ((ti.bytes : Int) * (c : Int) > 2 ^ 48)) || decide ((l : Int) < 0) || decide ((l : Int) > (c : Int))) = false := by
      have e2 : (ti.bytes : Int) * (c : Int) = ((ti.bytes * c : Nat) : Int) := by simp
      simp only [Bool.or_eq_false_iff, decide_eq_false_iff_not]
      rw [e2]
      refine ⟨⟨⟨by omega, by omega⟩, by omega⟩, by omega⟩
    rw [if_neg (by rw [hn]; simp)]
    rw [bind_ok (run_askRoom _ w), bind_ok (run_sizeOf hs w)]
    simp only [Int.toNat_natCast]
    rcases k1 with ⟨q1, rfl⟩ | ⟨q1, v, q2, rfl⟩
    · rw [if_pos q1]
      rfl
    · rw [if_neg q1, bind_ok q2]
      rfl
  split at hv
  · simp only [Option.some.injEq, Prod.mk.injEq] at hv
    obtain ⟨rfl, rfl⟩ := hv
    obtain ⟨m', g1, g2, g3⟩ := new_rows r na (by omega) (fun q hq => by rw [mem_repR hq]; exact hl) (by rw [repR_flatten]; exact k2) k3
    exact ⟨_, _, hrun _ rfl, m', .slice g3 q1 (Nat.le_refl _) (fun _ => rfl) (by simp), g1, g2, ⟨rfl, rfl, rfl⟩⟩
  · simp only [Option.some.injEq, Prod.mk.injEq] at hv
    obtain ⟨rfl, rfl⟩ := hv
    obtain ⟨m', g1, g2, g3⟩ := new_cells r na (c := (Array.range (c * (s + 1))).map (zs[· % zs.size]!)) (rest := []) (by simp) k2 k3 (fz := (0, 0)) (.inl rfl)
    exact ⟨_, _, hrun _ rfl, m', .slice g3 q1 (Nat.le_refl _) (fun _ => rfl) (by simp), g1, g2, ⟨rfl, rfl, rfl⟩⟩

/-! the bytes of a string -/

theorem cellsOfBytes_eq (s : List UInt8) : cellsOfBytes s = s.map fun b => AV.int .u8 (.ofNat b.toNat) := by
  induction s with
  | nil => rfl
  | cons b s ih => exact congrArg _ ih

theorem cellsOfBytes_LR (s : List UInt8) : LR E m (cellsOfBytes s) (s.map fun b => Value.int .u8 b.toNat) := by
  rw [cellsOfBytes_eq]
  refine ⟨by simp, fun i a v ha hv => ?_⟩
  simp only [List.getElem?_map] at ha hv
  cases hs : s[i]? with
  | none => rw [hs] at ha; simp at ha
  | some b =>
    rw [hs] at ha hv
    simp only [Option.map_some, Option.some.injEq] at ha hv
    subst ha; subst hv
    exact .int _ _

theorem leaf_bytes (s : List UInt8) : ∀ x ∈ s.map fun b => Value.int .u8 b.toNat, leafV x = true := by
  intro x hx
  obtain ⟨b, _, rfl⟩ := List.mem_map.1 hx
  rfl

theorem modify_push (hp : Hp) (o : Obj) (f : Obj → Obj) : (hp.push o).modify hp.size f = hp.push (f o) := by
  apply Array.ext_getElem?
  intro i
  rw [Array.getElem?_modify, Array.getElem?_push, Array.getElem?_push]
  by_cases hi : hp.size = i
  · subst hi; simp
  · rw [if_neg hi, if_neg (fun q => hi q.symm), if_neg (fun q => hi q.symm)]

theorem bytesOf_sound {h h' : AH} {w : World} (r : Rel E m h w.heap) {b e : Nat} {s : List UInt8} (na : NewAt m h b (.cells (cellsOfBytes s) e false) h') :
    ∃ x w', (Conv.stringToBytes e ⟨⟨s⟩⟩).run P w = .ok x w' ∧ PostX (some b) E m h w (.slice b 0 s.length s.length false 1) h' x w' := by
  obtain ⟨c, c1, c2⟩ := run_cap (P := P) (⟨⟨s⟩⟩ : ByteArray).size 0 e w
  have hsz : (⟨⟨s⟩⟩ : ByteArray).size = s.length := rfl
  rw [hsz] at c1 c2
  let cells : Array Value := ((⟨⟨s⟩⟩ : ByteArray).data.map fun b => Value.int .u8 b.toNat) ++ Array.replicate (c - s.length) (.int .u8 0)
  have hc : cells.toList = (s.map fun b => Value.int .u8 b.toNat) ++ List.replicate (c - s.length) (.int .u8 0) := by simp [cells]
  have hcs : cells.size = c := by simp [cells]; omega
  obtain ⟨m', g1, g2, g3⟩ := new_cells r na (c := cells) hc (cellsOfBytes_LR s) (leaf_bytes s) (fz := (cells.size, cells.size + 1)) (.inr (Nat.le_refl _))
  refine ⟨.slice (some ⟨w.heap.size, 0, none⟩) s.length c, { w with drawn := w.drawn + 1, heap := w.heap.push (.cells cells e (cells.size, cells.size + 1)) }, ?_, m',
    .slice g3 (Nat.le_refl _) c2 (by simp) (by simp [hcs]), g1, g2, ⟨rfl, rfl, rfl⟩⟩
  unfold Conv.stringToBytes
  rw [hsz, bind_ok c1]
  simp only
  rw [bind_ok (run_newRow _ _ _)]
  have hm : (markStringish ⟨w.heap.size, 0, none⟩).run P { w with drawn := w.drawn + 1, heap := w.heap.push (.cells cells e) } =
      .ok () { w with drawn := w.drawn + 1, heap := w.heap.push (.cells cells e (cells.size, cells.size + 1)) } := by
    unfold markStringish
    rw [bind_ok (run_shape' (b := w.heap.size) (c := cells) (e := e) (fz := (0, 0)) (by simp))]
    simp only [freeze, Sem.run, World.freeze]
    rw [if_neg (by simp), modify_push]
    rfl
  rw [bind_ok hm]
  rfl

theorem digits_size : ∀ (n t : Nat) (acc : Array Value), (Extern.BytealgMakeNoZero.digits n t acc).size = acc.size + n ∧
    ((∀ x ∈ acc.toList, leafV x = true) → ∀ x ∈ (Extern.BytealgMakeNoZero.digits n t acc).toList, leafV x = true) := by
  intro n
  induction n with
  | zero => intro t acc; exact ⟨rfl, fun h => h⟩
  | succ n ih =>
    intro t acc
    obtain ⟨h1, h2⟩ := ih (t / 256) (acc.push (.int .u8 (Int.ofNat (t % 256))))
    refine ⟨by rw [Extern.BytealgMakeNoZero.digits, h1]; simp; omega, fun h => ?_⟩
    refine h2 (fun x hx => ?_)
    rw [Array.toList_push, List.mem_append] at hx
    rcases hx with hx | hx
    · exact h x hx
    · simp at hx; subst hx; rfl

theorem any_LR : ∀ {vs : List Value}, (∀ x ∈ vs, leafV x = true) → LR E m (rep [.any] vs.length) vs := by
  intro vs
  induction vs with
  | nil => intro _; exact LR.nil
  | cons v vs ih =>
    intro h
    exact (LR.cons (.any (h v (List.mem_cons_self ..))) (ih fun x hx => h x (List.mem_cons_of_mem _ hx)) : LR E m (AV.any :: rep [.any] vs.length) (v :: vs))

theorem makeNoZero_eq {ps rs : Array TypeId} {t : TypeId} (ht : rs[0]? = some t) (n : Int) : Extern.BytealgMakeNoZero.makeNoZero ps rs #[.int .i64 n] = (do
    let d ← underlying t
    match d with
    | .slice elem =>
      if n < 0 || n > 2 ^ 48 then runtimePanic (.error "makeslice: len out of range") else do
      let cap ← choose (.appendCap n.toNat 0 elem)
      askRoom cap
      let bytes ← choose (.extern "internal/bytealg.MakeNoZero.bytes" 0)
      let a ← newRow elem (Extern.BytealgMakeNoZero.digits cap bytes #[])
      pure (.slice (some a) n.toNat cap)
    | _ => stuck "bytealg.MakeNoZero: slice type expected") := by
  obtain ⟨l⟩ := rs
  cases l with
  | nil => simp at ht
  | cons u l =>
    have : u = t := by simpa using ht
    subst this
    rfl

theorem xzero_sound {h : AH} {w : World} (r : Rel E m h w.heap) {ps rs : Array TypeId} {t e n : Nat} (ht : rs[0]? = some t) (hu : P.underlying t = some (.slice e)) (hn : n ≤ 1099511627776) :
    ∃ x w', (Extern.BytealgMakeNoZero.makeNoZero ps rs #[.int .i64 (.ofNat n)]).run P w = .ok x w' ∧
      Post E m h w (.slice h.next 0 n n false 1) (h.new (.cells (rep [.any] n) e false)) x w' := by
  obtain ⟨c, c1, c2⟩ := run_cap (P := P) n 0 e w
  let w1 : World := { w with drawn := w.drawn + 1 }
  have k1 := run_choose (P := P) (q := .extern "internal/bytealg.MakeNoZero.bytes" 0) (by rfl) w1
  let B := Question.cut (.extern "internal/bytealg.MakeNoZero.bytes" 0) (w1.tape w1.drawn (.extern "internal/bytealg.MakeNoZero.bytes" 0))
  let cells := Extern.BytealgMakeNoZero.digits c B #[]
  obtain ⟨d1, d2⟩ := digits_size c B #[]
  have d2 : ∀ x ∈ cells.toList, leafV x = true := d2 (by simp)
  have d1 : cells.size = c := by simpa using d1
  have hl : (cells.toList.take n).length = n := by rw [List.length_take, Array.length_toList, d1]; omega
  have t2 : ∀ x ∈ cells.toList.take n, leafV x = true := fun x hx => d2 x (List.mem_of_mem_take hx)
  have t1 : LR E m (rep [.any] n) (cells.toList.take n) := by have := any_LR (E := E) (m := m) t2; rw [hl] at this; exact this
  obtain ⟨m', g1, g2, g3⟩ := new_cells r (NewAt.new r _) (c := cells) (List.take_append_drop n cells.toList).symm t1 t2 (fz := (0, 0)) (.inl rfl)
  refine ⟨.slice (some ⟨w.heap.size, 0, none⟩) n c, { w with drawn := w.drawn + 1 + 1, heap := w.heap.push (.cells cells e) }, ?_, m',
    .slice g3 (Nat.le_refl _) c2 (by simp) (by simp [d1]), g1, g2.lift (fun b hb => by cases hb; exact Nat.le_refl _), ⟨rfl, rfl, rfl⟩⟩
  rw [makeNoZero_eq ht, bind_ok (run_underlying hu w)]
  simp only
  rw [if_neg (by simp; omega)]
  have c1' : (choose (.appendCap (Int.ofNat n).toNat 0 e)).run P w = .ok c w1 := c1
  rw [bind_ok c1', bind_ok (run_askRoom _ _), bind_ok k1, bind_ok (run_newRow _ _ _)]
  rfl

/-! iterators -/

theorem range_sound {h h' : AH} {w : World} (r : Rel E m h w.heap) {t : TypeId} (hu : P.underlying t = some .string) {b : Nat} {s : List UInt8} (na : NewAt m h b (.iter s 0) h') :
    ∃ x w', (Instr.range t (.string ⟨⟨s⟩⟩)).run P w = .ok x w' ∧ PostX (some b) E m h w (.ptr b 0) h' x w' := by
  obtain ⟨m', g1, g2, g3⟩ := r.newAt na (o := .stringIter ⟨⟨s⟩⟩ 0) (sz := 0) (fun m' _ => by show _ = _; simp)
  refine ⟨_, { w with heap := w.heap.push (.stringIter ⟨⟨s⟩⟩ 0) }, ?_, m', .ptr g3, g1, g2, ⟨rfl, rfl, rfl⟩⟩
  unfold Instr.range
  rw [bind_ok (run_underlying hu w)]
  rfl

theorem next_sound {h : AH} {w : World} (r : Rel E m h w.heap) {x v : AV} {X : Value} (hx : VR E m x X) {h' : AH} (hv : anext x h = some (v, h')) (t : TypeId) :
    ∃ y w', (Instr.next X true t).run P w = .ok y w' ∧ Post E m h w v h' y w' := by
  unfold anext at hv
  split at hv <;> first | (simp at hv; done) | skip
  rename_i b
  split at hv <;> first | (simp at hv; done) | skip
  rename_i s pos hb
  cases hx with
  | ptr hm =>
    rename_i cb
    obtain ⟨cb', h1, h2⟩ := r.dom b _ hb
    rw [hm] at h1; cases h1
    have h2 : w.heap[cb.blk]? = some (.stringIter ⟨⟨s⟩⟩ pos) := h2
    have hget : (getObj cb.blk).run P w = .ok (.stringIter ⟨⟨s⟩⟩ pos) w := by simp [getObj, Sem.run, h2]
    split at hv
    · rename_i hlt
      have hlt : pos < s.length := by simpa using hlt
      split at hv
      rename_i c wd hdec
      simp only [withN_eq, Option.some.injEq, Prod.mk.injEq] at hv
      obtain ⟨rfl, rfl⟩ := hv
      have hlt' : cb.blk < w.heap.size := by
        rcases Nat.lt_or_ge cb.blk w.heap.size with q | q
        · exact q
        · rw [Array.getElem?_eq_none q] at h2; simp at h2
      obtain ⟨g1, g2⟩ := r.put (y := .iter s (pos + wd)) (o := .stringIter ⟨⟨s⟩⟩ (pos + wd)) hb rfl hm (by show _ = _; simp [hlt'])
      refine ⟨.tuple #[.bool true, goInt pos, .int .i32 c], { w with heap := w.heap.setIfInBounds cb.blk (.stringIter ⟨⟨s⟩⟩ (pos + wd)) }, ?_, m, ?_, g1, g2, ⟨rfl, rfl, rfl⟩⟩
      · unfold Instr.next
        simp only
        rw [bind_ok hget]
        simp only
        rw [if_pos (by exact hlt)]
        simp only [hdec]
        have hset : (setObj cb.blk (.stringIter ⟨⟨s⟩⟩ (pos + wd))).run P w = .ok () { w with heap := w.heap.setIfInBounds cb.blk (.stringIter ⟨⟨s⟩⟩ (pos + wd)) } := by
          simp [setObj, Sem.run, h2]
        rw [bind_ok hset]
        rfl
      · refine .tup rfl (fun i a v ha hv => ?_)
        match i, ha, hv with
        | 0, ha, hv => cases ha; cases hv; exact .bool _
        | 1, ha, hv => cases ha; cases hv; exact .int _ _
        | 2, ha, hv => cases ha; cases hv; exact .int _ _
        | i + 3, ha, hv => simp at ha
    · rename_i hlt
      have hlt : ¬ pos < s.length := by simpa using hlt
      simp only [Option.some.injEq, Prod.mk.injEq] at hv
      obtain ⟨rfl, rfl⟩ := hv
      refine ⟨.tuple #[.bool false], w, ?_, Post.of rfl (Same.refl w) r (.tup rfl (fun i a v ha hv => ?_))⟩
      · unfold Instr.next
        simp only
        rw [bind_ok hget]
        simp only
        rw [if_neg (by exact hlt)]
        rfl
      · match i, ha, hv with
        | 0, ha, hv => cases ha; cases hv; exact .bool _
        | i + 1, ha, hv => simp at ha
end
end Go.Ab
