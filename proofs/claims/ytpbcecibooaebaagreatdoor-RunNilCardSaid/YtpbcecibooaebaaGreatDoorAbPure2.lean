/-
  The instructions that leave the heap as it is: slices, indexes, conversions.
-/
import Derived.Test.YtpbcecibooaebaaGreatDoorAbPure
namespace Go.Ab
open Go

section
variable {E : Cx} {m : Mp} {P : Program}

theorem extract_mk (s : List UInt8) (l h : Nat) : (⟨⟨s⟩⟩ : ByteArray).extract l h = ⟨⟨(s.drop l).take (h - l)⟩⟩ := by
  have e : ((⟨⟨s⟩⟩ : ByteArray).extract l h).data = (⟨(s.drop l).take (h - l)⟩ : Array UInt8) := by
    rw [ByteArray.data_extract]; simp [List.extract_eq_take_drop]
  cases hc : (⟨⟨s⟩⟩ : ByteArray).extract l h with
  | mk d => rw [hc] at e; simp at e; rw [e]

theorem nought_bound {x : Option Opd} {tm : FT} (h : nought x tm = true) : boundOr x tm 0 0 = some 0 := by
  cases x with
  | none => rfl
  | some x =>
    simp only [nought] at h
    split at h
    · rename_i i hx
      have : i = 0 := by simpa using h
      subst this
      simp [boundOr, hx, bound]
    · simp at h

theorem slice_sound (hg : Globs P m) {h : AH} {w : World} (r : Rel E m h w.heap) {t : TypeId} {x : Opd} {lo hi mx : Option Operand} {clo chi cmx : Option Opd}
    (h1 : cOpt P lo = some clo) (h2 : cOpt P hi = some chi) (h3 : cOpt P mx = some cmx) (h4 : (cmx.isSome && chi.isNone) = false) {i : AI} (hc : cSlice P t x clo chi cmx = some i)
    {tm : FT} {a : Act} (hf : FR E m tm a.tmps) {v : AV} (hv : i.pure.f tm h = some v) {X : Value} (hx : VR E m (opd x tm) X) :
    ∃ y, (Instr.sliceAt t X (lo.map a.eval) (hi.map a.eval) (mx.map a.eval)).run P w = .ok y w ∧ VR E m v y := by
  unfold cSlice at hc
  split at hc
  · -- an array behind an address
    rename_i n e hu
    split at hc <;> first | (simp at hc; done) | skip
    rename_i s hs
    split at hc <;> first | (simp at hc; done) | skip
    rename_i hns
    cases hc
    simp only [AI.pure, asliceA] at hv
    split at hv <;> first | (simp at hv; done) | skip
    rename_i b o hopd
    split at hv <;> first | (simp at hv; done) | skip
    rename_i cs hcs
    rw [hopd] at hx
    obtain ⟨cb, fl, e', ro, q1, ⟨c, fz, q2, q3, q4, _⟩, _, q5, _⟩ := r.cellsR hcs
    have q5 := q5 (by omega)
    cases hx with
    | ptr hm =>
      rw [q1] at hm; cases hm
      simp only [cutArr] at hv
      split at hv <;> first | (simp at hv; done) | skip
      rename_i mm e1
      split at hv <;> first | (simp at hv; done) | skip
      rename_i hh e2
      split at hv <;> first | (simp at hv; done) | skip
      rename_i ll e3
      cases hv
      obtain ⟨g1, g2, g3, g4, g5, g6⟩ := bounds_sound hg h1 h2 h3 h4 hf (Nat.le_refl n) e1 e2 e3 false w
      have hmm : (if cmx.isSome then mm else n) = mm := by
        cases cmx with
        | none => simp [g5 rfl]
        | some _ => rfl
      have hhm : hh ≤ mm := by
        cases chi with
        | some _ => exact g3 rfl
        | none => rw [g4 rfl]; cases cmx with
          | none => rw [g5 rfl]; exact Nat.le_refl _
          | some _ => simp at h4
      rw [hmm] at g1
      unfold Instr.sliceAt
      rw [bind_ok (run_underlying hu w)]
      simp only [Instr.sureAddr]
      rw [bind_ok (run_pure _ w), bind_ok g1]
      simp only
      rw [bind_ok (run_sizeOf hs w)]
      refine ⟨_, rfl, ?_⟩
      have hb : ll * s + (mm - ll) * s ≤ n * s := by rw [← Nat.add_mul]; exact Nat.mul_le_mul_right _ (by omega)
      by_cases hml : mm = ll
      · subst hml
        simp only [eqN_eq, decide_true, if_true, Nat.sub_self]
        exact .slice q1 (by omega) (Nat.le_refl _) (fun _ => rfl) (by omega)
      · simp only [eqN_eq, hml, decide_false, if_false, addr_add]
        have := VR.slice (E := E) (b := b) (o := o + ll * s) (len := hh - ll) (cap := mm - ll) (ex := true) (s := s) (c := mm - ll) q1 (by omega) (Nat.le_refl _) (fun _ => rfl) (by omega)
        exact this
  · -- a string
    rename_i hu
    split at hc <;> first | (simp at hc; done) | skip
    cases hc
    have hmx := cOpt_none h3
    subst hmx
    simp only [AI.pure, asliceS] at hv
    split at hv <;> first | (simp at hv; done) | skip
    rename_i s hopd
    rw [hopd] at hx
    cases hx
    split at hv <;> first | (simp at hv; done) | skip
    rename_i hh e2
    split at hv <;> first | (simp at hv; done) | skip
    rename_i ll e3
    split at hv <;> first | (simp at hv; done) | skip
    rename_i q hq
    cases hv
    simp only [dropL_eq, lenL_eq] at hq e2
    obtain ⟨_, rfl⟩ := takeL_some.1 hq
    obtain ⟨g1, g2, g3, g4, g5, g6⟩ := bounds_sound hg h1 h2 h3 h4 hf (Nat.le_refl s.length) (cmx := none) rfl e2 e3 false w
    unfold Instr.sliceAt
    rw [bind_ok (run_underlying hu w)]
    simp only [Instr.slice]
    rw [bind_ok (run_underlying hu w)]
    simp only [Option.map_none, Option.isSome_none, Bool.false_eq_true, if_false] at g1 ⊢
    rw [size_mk, bind_ok g1]
    refine ⟨_, rfl, ?_⟩
    rw [extract_mk]
    exact .str _
  · -- a slice
    rename_i e hu
    split at hc <;> first | (simp at hc; done) | skip
    rename_i s hs
    cases hc
    have go : ∀ {A : Option Addr} {len c ll hh mm : Nat}, (Instr.sliceBounds true len c (lo.map a.eval) (hi.map a.eval) (mx.map a.eval)).run P w = .ok (ll, hh, mm) w →
        (Instr.sliceAt t (.slice A len c) (lo.map a.eval) (hi.map a.eval) (mx.map a.eval)).run P w = .ok (.slice (if mm = ll then A else A.map (·.add (ll * s))) (hh - ll) (mm - ll)) w := by
      intro A len c ll hh mm g
      unfold Instr.sliceAt
      rw [bind_ok (run_underlying hu w)]
      simp only [Instr.slice]
      rw [bind_ok (run_underlying hu w)]
      simp only
      rw [bind_ok g]
      simp only
      rw [bind_ok (run_sizeOf hs w)]
      rfl
    simp only [AI.pure, asliceV] at hv
    split at hv <;> first | (simp at hv; done) | skip
    · rename_i b o len cap ex s' hopd
      split at hv <;> first | (simp at hv; done) | skip
      rename_i hss
      have hss : s' = s := by simpa using hss
      subst hss
      rw [hopd] at hx
      cases hx with
      | slice hm hl hcap hx hsz =>
        rename_i c cb
        simp only [cutSlice] at hv
        split at hv <;> first | (simp at hv; done) | skip
        rename_i mm e1
        split at hv <;> first | (simp at hv; done) | skip
        rename_i hh e2
        split at hv <;> first | (simp at hv; done) | skip
        rename_i ll e3
        obtain ⟨g1, g2, g3, g4, g5, g6⟩ := bounds_sound hg h1 h2 h3 h4 hf hcap e1 e2 e3 true w
        have hhm : hh ≤ mm := by
          cases chi with
          | some _ => exact g3 rfl
          | none => rw [g4 rfl]; cases cmx with
            | none => rw [g5 rfl]; exact hl
            | some _ => simp at h4
        have hM : ∃ M, (if cmx.isSome then mm else c) = M ∧ mm ≤ M ∧ M ≤ c ∧ ((ex || cmx.isSome) = true → M = mm) := by
          cases cmx with
          | none => refine ⟨c, rfl, by omega, Nat.le_refl _, fun q => ?_⟩; rw [g5 rfl]; exact hx (by simpa using q)
          | some _ => exact ⟨mm, rfl, Nat.le_refl _, by omega, fun _ => rfl⟩
        obtain ⟨M, hM, m1, m2, m3⟩ := hM
        rw [hM] at g1
        refine ⟨_, go g1, ?_⟩
        have hmul : M * s' ≤ c * s' := Nat.mul_le_mul_right _ m2
        split at hv <;> cases hv
        · -- from the beginning
          rename_i hl0
          have hl0 : ll = 0 := by simpa using hl0
          subst hl0
          have : (if M = 0 then some (⟨cb.blk, o, none⟩ : Addr) else (some (⟨cb.blk, o, none⟩ : Addr)).map (·.add (0 * s'))) = some ⟨cb.blk, o, none⟩ := by
            simp [Addr.add]
          rw [this]
          exact .slice hm (by omega) (by omega) (fun q => by rw [m3 q]; rfl) (by simp; omega)
        · -- all of it is cut off, and the capacity is known
          rename_i hl0 hml hex
          have hml : mm = ll := by simpa using hml
          have := m3 hex
          rw [if_pos (by omega), show M - ll = 0 by omega]
          exact .slice hm (by omega) (Nat.le_refl _) (fun _ => rfl) (by omega)
        · -- all of it is cut off
          rename_i hl0 hml hex
          have hml : mm = ll := by simpa using hml
          rw [show hh - ll = 0 by omega]
          split <;> exact .emp _ _
        · rename_i hl0 hml
          have hml : mm ≠ ll := by simpa using hml
          rw [if_neg (by omega)]
          simp only [Option.map_some, addr_add]
          have hb : ll * s' + (M - ll) * s' = M * s' := by rw [← Nat.add_mul]; congr 1; omega
          have := VR.slice (E := E) (b := b) (o := o + ll * s') (len := hh - ll) (cap := mm - ll) (ex := ex || cmx.isSome) (s := s') (c := M - ll) hm (by omega) (by omega) (fun q => by rw [m3 q]) (by omega)
          exact this
    · rename_i hopd
      rw [hopd] at hx
      cases hx
      split at hv <;> first | (simp at hv; done) | skip
      rename_i n1 n2 n3
      cases hv
      obtain ⟨g1, g2, g3, g4, g5, g6⟩ := bounds_sound hg h1 h2 h3 h4 hf (Nat.le_refl 0) (nought_bound n3) (nought_bound n2) (nought_bound n1) true w
      have hM : (if cmx.isSome then 0 else 0) = 0 := by split <;> rfl
      rw [hM] at g1
      exact ⟨_, go g1, .nils⟩
    · rename_i hopd
      rw [hopd] at hx
      cases hx with
      | emp A c =>
        split at hv <;> first | (simp at hv; done) | skip
        rename_i n1 n2
        cases hv
        obtain ⟨g1, g2, g3, g4, g5, g6⟩ := bounds_sound hg h1 h2 h3 h4 hf (Nat.zero_le c) rfl (nought_bound n2) (nought_bound n1) true w
        simp only [Option.isSome_none, Bool.false_eq_true, if_false] at g1
        refine ⟨_, go g1, ?_⟩
        split
        · exact .emp _ _
        · exact .emp _ _
  · simp at hc

theorem iaddr_sound {t : TypeId} {x i : Opd} {I : AI} (hc : cIAddr P t x i = some I) {tm : FT} {h : AH} {v : AV} (hv : I.pure.f tm h = some v) {X Y : Value}
    (hx : VR E m (opd x tm) X) (hy : VR E m (opd i tm) Y) (w : World) : ∃ y, (Instr.indexAt t X Y).run P w = .ok y w ∧ VR E m v y := by
  have idx : ∀ {n s b o : Nat} {z : AV}, aiaddr n s b o (opd i tm) = some z → ∃ k j, Y = .int k (.ofNat j) ∧ j < n ∧ z = .ptr b (o + j * s) := by
    intro n s b o z hz
    unfold aiaddr at hz
    split at hz <;> first | (simp at hz; done) | skip
    rename_i k j hj
    split at hz <;> first | (simp at hz; done) | skip
    rename_i hlt
    cases hz
    rw [hj] at hy
    cases hy
    exact ⟨_, _, rfl, by simpa using hlt, rfl⟩
  unfold cIAddr at hc
  split at hc <;> first | (simp at hc; done) | skip
  · rename_i n e hu
    split at hc <;> first | (simp at hc; done) | skip
    rename_i s hs
    cases hc
    simp only [AI.pure] at hv
    split at hv <;> first | (simp at hv; done) | skip
    rename_i b o hopd
    rw [hopd] at hx
    obtain ⟨k, j, rfl, hlt, rfl⟩ := idx hv
    cases hx with
    | ptr hm =>
      rename_i cb
      unfold Instr.indexAt asIntOf
      simp only
      rw [bind_ok (run_pure _ w)]
      simp only
      rw [bind_ok (run_underlying hu w)]
      simp only [Instr.sureAddr]
      rw [bind_ok (run_pure _ w), bind_ok (run_pure _ w)]
      simp only
      rw [bind_ok (run_underlying hu w)]
      simp only
      have hb : (0 : Int) ≤ Int.ofNat j ∧ Int.ofNat j < (n : Int) := ⟨Int.natCast_nonneg j, Int.ofNat_lt.2 hlt⟩
      rw [if_pos hb, bind_ok (run_sizeOf hs w)]
      refine ⟨_, rfl, ?_⟩
      rw [addr_add]
      have := VR.ptr (E := E) (o := o + j * s) hm
      exact this
  · rename_i e hu
    split at hc <;> first | (simp at hc; done) | skip
    rename_i s hs
    cases hc
    simp only [AI.pure] at hv
    split at hv <;> first | (simp at hv; done) | skip
    rename_i b o len cap ex z hopd
    rw [hopd] at hx
    obtain ⟨k, j, rfl, hlt, rfl⟩ := idx hv
    cases hx with
    | slice hm hl hcap hx hsz =>
      unfold Instr.indexAt asIntOf
      simp only
      rw [bind_ok (run_pure _ w)]
      simp only
      rw [bind_ok (run_underlying hu w)]
      simp only
      rw [bind_ok (run_pure _ w)]
      simp only
      rw [bind_ok (run_underlying hu w)]
      simp only
      have hb : (0 : Int) ≤ Int.ofNat j ∧ Int.ofNat j < (len : Int) := ⟨Int.natCast_nonneg j, Int.ofNat_lt.2 hlt⟩
      rw [if_pos hb, bind_ok (run_sizeOf hs w)]
      refine ⟨_, rfl, ?_⟩
      rw [addr_add]
      have := VR.ptr (E := E) (o := o + j * s) hm
      exact this

/-- a part of an aggregate -/
theorem apart_sound {t : TypeId} {n : Nat} {agg : Bool} (ht : wideT P t = some (n, agg)) {off : Nat} {cs : List AV} {v : AV} (h : apart off n agg cs = some v) {vs : Array Value}
    (hv : VR E m (.agg cs) (.agg vs)) (w : World) : ∃ y, (part t vs off).run P w = .ok y w ∧ VR E m v y := by
  unfold apart at h
  rw [dropL_eq] at h
  split at h <;> first | (simp at h; done) | skip
  rename_i l hl
  obtain ⟨h1, rfl⟩ := takeL_some.1 hl
  rw [List.length_drop] at h1
  cases hv with
  | agg ha hla hra =>
    obtain ⟨g1, z, g2, g3, g4⟩ := wideT_some ht
    have lr : LR E m cs vs.toList := ⟨by simpa using ha, fun i a v h1 h2 => hra i a v h1 (by simpa using h2)⟩
    cases agg with
    | true =>
      have g3 := g3 rfl
      subst g3
      simp only [ofCells, Option.some.injEq] at h
      subst h
      unfold part
      rw [bind_ok (run_isAgg g1 w)]
      simp only [if_true]
      rw [bind_ok (run_sizeOf g2 w)]
      refine ⟨_, rfl, ?_⟩
      have e : vs.extract off (off + z) = ((vs.toList.drop off).take z).toArray := by
        apply Array.toList_inj.1
        simp [List.extract_eq_take_drop]
      rw [e]
      exact LR.agg ((lr.drop off).take z) (fun x hx => by
        have hx := List.mem_of_mem_drop (List.mem_of_mem_take hx)
        obtain ⟨i, hi, rfl⟩ := Array.mem_iff_getElem.1 (Array.mem_toList_iff.1 hx)
        exact hla i _ (by simp [hi]))
    | false =>
      have g4 := g4 rfl
      subst g4
      have hlt : off < cs.length := by omega
      have hlt' : off < vs.size := by omega
      rw [List.drop_eq_getElem_cons hlt] at h
      simp only [List.take_succ_cons, List.take_zero, ofCells, Option.some.injEq] at h
      subst h
      unfold part
      rw [bind_ok (run_isAgg g1 w)]
      simp only [Bool.false_eq_true, if_false]
      have : vs[off]? = some vs[off] := by simp [hlt']
      rw [this]
      exact ⟨_, rfl, hra off _ _ (by simp [hlt]) this⟩

theorem index_sound {t : TypeId} {x i : Opd} {I : AI} (hc : cIndex P t x i = some I) {tm : FT} {h : AH} {v : AV} (hv : I.pure.f tm h = some v) {X Y : Value}
    (hx : VR E m (opd x tm) X) (hy : VR E m (opd i tm) Y) (w : World) : ∃ y, (Instr.index t X Y).run P w = .ok y w ∧ VR E m v y := by
  unfold cIndex at hc
  split at hc <;> first | (simp at hc; done) | skip
  · rename_i n e hu
    split at hc <;> first | (simp at hc; done) | skip
    rename_i k agg s hk hs
    split at hc <;> first | (simp at hc; done) | skip
    rename_i hks
    subst hks
    cases hc
    simp only [AI.pure] at hv
    split at hv <;> first | (simp at hv; done) | skip
    rename_i cs hopd
    rw [hopd] at hx
    unfold aidxA at hv
    split at hv <;> first | (simp at hv; done) | skip
    rename_i q j hj
    split at hv <;> first | (simp at hv; done) | skip
    rename_i hlt
    have hlt : j < n := by simpa using hlt
    rw [hj] at hy
    cases hy
    have hx' := hx
    cases hx with
    | agg ha hla hra =>
      obtain ⟨y, g1, g2⟩ := apart_sound hk hv hx' w
      unfold Instr.index asIntOf
      simp only
      rw [bind_ok (run_pure _ w)]
      simp only
      rw [bind_ok (run_underlying hu w)]
      simp only
      have hb : (0 : Int) ≤ Int.ofNat j ∧ Int.ofNat j < (n : Int) := ⟨Int.natCast_nonneg j, Int.ofNat_lt.2 hlt⟩
      rw [if_pos hb, bind_ok (run_sizeOf hs w)]
      exact ⟨y, g1, g2⟩
  · rename_i hu
    cases hc
    simp only [AI.pure, onStr] at hv
    split at hv <;> first | (simp at hv; done) | skip
    rename_i s hopd
    rw [hopd] at hx
    cases hx
    unfold aidxS at hv
    split at hv <;> first | (simp at hv; done) | skip
    rename_i q j hj
    rw [dropL_eq] at hv
    split at hv <;> first | (simp at hv; done) | skip
    rename_i b rest hd
    cases hv
    rw [hj] at hy
    cases hy
    have hget : s[j]? = some b := by
      have := congrArg List.head? hd
      rw [List.head?_drop] at this
      simpa using this
    unfold Instr.index asIntOf
    simp only
    rw [bind_ok (run_pure _ w)]
    simp only
    rw [bind_ok (run_underlying hu w)]
    simp only
    have hlt : j < s.length := by
      rcases Nat.lt_or_ge j s.length with q | q
      · exact q
      · rw [List.getElem?_eq_none q] at hget; simp at hget
    have hb : (if (0 : Int) ≤ Int.ofNat j then (⟨⟨s⟩⟩ : ByteArray)[(Int.ofNat j).toNat]? else none) = some b := by
      rw [if_pos (show (0 : Int) ≤ Int.ofNat j from Int.natCast_nonneg j)]
      have h1 : (⟨⟨s⟩⟩ : ByteArray)[(Int.ofNat j).toNat]? = some ((⟨⟨s⟩⟩ : ByteArray)[j]'hlt) := getElem?_pos (⟨⟨s⟩⟩ : ByteArray) j hlt
      rw [h1, ByteArray.getElem_eq_getElem_data]
      rw [List.getElem?_eq_getElem hlt] at hget
      simpa using hget
    rw [hb]
    exact ⟨_, rfl, .int _ _⟩
end
end Go.Ab
