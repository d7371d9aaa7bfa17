/-
  The abstract machine's append is the model's.
-/
import Derived.Test.YtpbcecibooaebaaGreatDoorAbAct4
namespace Go.Ab
open Go

section
variable {E : Cx} {m : Mp} {P : Program}

theorem FrX.congr {fl : Option Nat} {m' : Mp} {h h1 h2 : AH} {hp hp' : Hp} (f : FrX fl m h hp m' h1 hp') (hg : ∀ b, h2.get b = h1.get b) (hn : h2.next = h1.next) : FrX fl m h hp m' h2 hp' :=
  ⟨f.size, f.keep, fun k hk ⟨b, x, cb, g1, g2⟩ => f.own k hk ⟨b, x, cb, by rw [← hg]; exact g1, g2⟩,
    fun k hk ⟨b, x, cb, g1, g2⟩ => f.pres k hk ⟨b, x, cb, by rw [← hg]; exact g1, g2⟩, f.ext, by rw [hn]; exact f.next, f.dom⟩

/-- what is appended: the model's cells for it -/
theorem appended_sound {h : AH} {w : World} (r : Rel E m h w.heap) {e s bytes : Nat} {u : TypeId} {d : TypeDesc} (hd : P.underlying u = some d) {zz : List AV} (hzz : zeroOf P e = some zz)
    (hzl : zz.length = s + 1) {z : Option (List AV)} (hz : (z = some zz ∧ ∃ k, d = .int k) ∨ (z = none ∧ ∀ k, d ≠ .int k)) {ts : Array TypeId} (hus : ts[1]? = some u) {y : AV} {Y : Value}
    (hy : VR E m y Y) {n : Nat} {new : List AV} (ha : appended z (s + 1) bytes y h = some (n, new)) :
    ∃ zb vs, Appd P w e s bytes ts Y zb n vs.toArray ∧ LR E m new vs ∧ (∀ x ∈ vs, leafV x = true) ∧ vs.length = n * (s + 1) := by
  unfold appended at ha
  rcases hz with ⟨rfl, k, rfl⟩ | ⟨rfl, hnd⟩
  · simp only at ha
    split at ha <;> first | (simp at ha; done) | skip
    rename_i k' i
    split at ha <;> first | (simp at ha; done) | skip
    rename_i h1 h2
    simp only [Option.some.injEq, Prod.mk.injEq] at ha
    obtain ⟨rfl, rfl⟩ := ha
    cases hy
    have h1 : i ≤ 1099511627776 := by simpa using h1
    have h2 : i * bytes ≤ 1099511627776 := by simpa using h2
    obtain ⟨it, zv, g1, g2, g3, g4⟩ := zeroOf_sound (E := E) (m := m) hzz
    have hsz : zv.cells.size = s + 1 := by rw [← hzl, g3.1]; simp
    refine ⟨true, (List.replicate i zv.cells.toList).flatten, ⟨⟨u, _, hus, hd, fun _ => ⟨k, rfl⟩, by simp⟩, fun _ => ⟨k', rfl, h1, h2⟩, by simp, fun w' _ => ?_⟩, g3.rep i, leaf_rep g4 i, by simp [hsz]⟩
    simp only [Bool.not_true, Bool.false_eq_true, if_false]
    by_cases hn : i * (s + 1) = 0
    · have : i = 0 := by rcases Nat.mul_eq_zero.1 hn with q | q <;> omega
      subst this
      simp
    · rw [if_neg hn, bind_ok (run_zeroValue g1 g2 w')]
      show Result.ok _ _ = _
      congr 1
      apply Array.toList_inj.1
      unfold Builtin.zeroCells
      rw [hsz, range_map hsz (by omega)]
  · simp only at ha
    split at ha <;> first | (simp at ha; done) | skip
    rename_i q hl
    split at ha <;> first | (simp at ha; done) | skip
    rename_i cs hcs
    cases ha
    obtain ⟨vs, g1, g2, g3, g4⟩ := srcCells_sound (P := P) r hcs hy
    refine ⟨false, vs, ⟨⟨u, d, hus, hd, by simp, fun _ => hnd⟩, by simp, fun _ => lenA_sound hl hy w, fun w' hw' => ?_⟩, g2, g3, g4 hl⟩
    simp only [Bool.not_false, if_true]
    exact g1 w' hw'

/-- a slice in a new block -/
theorem grown_post {h h' : AH} {w : World} (r : Rel E m h w.heap) {b e s k cap : Nat} {cs : List AV} {vs rest : List Value} (na : NewAt m h b (.cells cs e false) h') (hl : LR E m cs vs)
    (hx : ∀ x ∈ vs, leafV x = true) (hk : vs.length = k * (s + 1)) (hc : k ≤ cap) (hr : rest.length = (cap - k) * (s + 1)) {c : Array Value} (hca : c.toList = vs ++ rest) {w' : World} (hw' : w'.heap = w.heap.push (.cells c e)) (hs : Same w w') :
    PostX (some b) E m h w (.slice b 0 k k false (s + 1)) h' (.slice (some ⟨w.heap.size, 0, none⟩) k cap) w' := by
  obtain ⟨m', g1, g2, g3⟩ := new_cells r na (c := c) (rest := rest) hca hl hx (fz := (0, 0)) (.inl rfl)
  refine ⟨m', .slice g3 (Nat.le_refl _) hc (by simp) ?_, by rw [hw']; exact g1, by rw [hw']; exact g2, hs⟩
  have : cap * (s + 1) = k * (s + 1) + (cap - k) * (s + 1) := by rw [← Nat.add_mul]; congr 1; omega
  have h2 : c.size = vs.length + rest.length := by rw [← Array.length_toList, hca, List.length_append]
  show 0 + cap * (s + 1) ≤ c.size
  omega

theorem zeroCells_len {zv : Value} {s : Nat} (h : zv.cells.size = s + 1) (n : Nat) : (Builtin.zeroCells zv.cells n).toList.length = n * (s + 1) := by
  unfold Builtin.zeroCells
  rw [h, range_map h (by omega)]
  simp [h]

theorem inplace_cells {cs old new : List AV} {e : Nat} {cb : CB} {w : World} (h : CellsR E m cs e false cb w.heap) {k : Nat} (ho : old = cs.take k) (hk : k ≤ cs.length) {vs : List Value}
    (hl : LR E m new vs) (hx : ∀ x ∈ vs, leafV x = true) (hs : k + vs.length ≤ cb.size) :
    ∃ ob, (storeCells ⟨cb.blk, k, none⟩ vs).run P w = .ok () { w with heap := w.heap.setIfInBounds cb.blk ob } ∧ CellsR E m (old ++ new) e false cb (w.heap.setIfInBounds cb.blk ob) := by
  obtain ⟨c, fz, h1, h2, h3, h4, h5⟩ := h
  obtain ⟨c', g1, g2, g3⟩ := run_storeCells (P := P) vs w k 0 c h1 (by omega) (fun j _ hj => by have := h5 rfl; omega) hx
  have hb : cb.blk < w.heap.size := by
    rcases Nat.lt_or_ge cb.blk w.heap.size with q | q
    · exact q
    · rw [Array.getElem?_eq_none q] at h1; simp at h1
  have hnl := hl.1
  refine ⟨.cells c' e fz, g1, c', fz, by simp [hb], by omega, ?_, ?_, h5⟩
  · rw [ho, List.length_append, List.length_take]; omega
  · intro i a ha
    rw [g3 i]
    have hol : old.length = k := by rw [ho, List.length_take]; omega
    by_cases hi : i < k
    · rw [if_neg (by omega)]
      rw [List.getElem?_append_left (by omega), ho, List.getElem?_take, if_pos hi] at ha
      exact h4 i a ha
    · rw [List.getElem?_append_right (by omega), hol] at ha
      have hlt : i - k < new.length := by
        rcases Nat.lt_or_ge (i - k) new.length with q | q
        · exact q
        · rw [List.getElem?_eq_none q] at ha; simp at ha
      rw [if_pos (by omega), show i - (k + 0) = i - k by omega]
      have hlt' : i - k < vs.length := by omega
      exact ⟨vs[i - k], by simp [hlt'], hl.2 _ a _ ha (by simp [hlt']), hx _ (by simp)⟩

theorem append_sound {h h' : AH} {w : World} (r : Rel E m h w.heap) {t e u : TypeId} {s bytes : Nat} (hu : P.underlying t = some (.slice e)) (hs : sizeT P e = some (s + 1))
    (hb : bytesT P e = some bytes) {d : TypeDesc} (hd : P.underlying u = some d) {zz : List AV} (hzz : zeroOf P e = some zz)
    (hzl : zz.length = s + 1) {z : Option (List AV)} (hz : (z = some zz ∧ ∃ k, d = .int k) ∨ (z = none ∧ ∀ k, d ≠ .int k)) {ts : Array TypeId} (hts : ts[0]? = some t) (hus : ts[1]? = some u)
    {x y v : AV} {X Y : Value} (hx : VR E m x X) (hy : VR E m y Y) (hv : aappend e (s + 1) bytes z x y h = some (v, h')) (ty : TypeId) :
    ∃ q w', (Builtin.append_ ts ty #[X, Y]).run P w = .ok q w' ∧ Post E m h w v h' q w' := by
  unfold aappend at hv
  split at hv <;> first | (simp at hv; done) | skip
  rename_i n new hap
  obtain ⟨zb, vs, a1, a2, a3, a4⟩ := appended_sound r hd hzz hzl hz hus hy hap
  obtain ⟨it, zv, z1, z2, z3, z4⟩ := zeroOf_sound (E := E) (m := m) hzz
  have hzv : ∀ w, (zeroValue e).run P w = .ok zv w := run_zeroValue z1 z2
  have hsz : zv.cells.size = s + 1 := by rw [← hzl, z3.1]; simp
  have vs0 : n = 0 → vs = [] := fun hn => List.eq_nil_of_length_eq_zero (by rw [a4, hn]; simp)
  split at hv <;> first | (simp at hv; done) | skip
  · -- nil
    cases hx
    split at hv
    · rename_i hn
      have hn : n = 0 := by simpa using hn
      subst hn
      cases hv
      exact ⟨_, w, append_in hu hs hb hts ty a1 (Nat.le_refl _) (fun a ha => by cases ha) (fun _ => rfl), Post.of rfl (Same.refl w) r .nils⟩
    · rename_i hn
      have hn : n ≠ 0 := by simpa using hn
      split at hv <;> first | (simp at hv; done) | skip
      rename_i hg
      cases hv
      obtain ⟨cap, c1, c2⟩ := append_out (base := none) (l := 0) (c := 0) (old := #[]) hu hs hb hzv hts ty a1 (by omega) (by rw [Nat.zero_add]; exact hg) (fun w' _ => rfl)
      simp only [Nat.zero_add] at c1 c2
      refine ⟨_, _, c2, PostX.lift (grown_post r (NewAt.new r _) a2 a3 a4 c1 (zeroCells_len hsz (cap - n)) (by simp) rfl ⟨rfl, rfl, rfl⟩) (fun b hb => by cases hb; exact Nat.le_refl _)⟩
  · -- empty
    split at hv <;> first | (simp at hv; done) | skip
    rename_i hn
    have hn : n = 0 := by simpa using hn
    subst hn
    cases hv
    cases hx
    rename_i a c
    refine ⟨_, w, append_in hu hs hb hts ty a1 (by omega) (fun a ha => ?_) (fun ha => by cases ha), Post.of rfl (Same.refl w) r (.emp a c)⟩
    cases ha
    rw [vs0 rfl]; rfl
  · -- a slice
    rename_i b o len cap ex s'
    split at hv <;> first | (simp at hv; done) | skip
    rename_i hs'
    have hs' : s' = s + 1 := by simpa using hs'
    subst hs'
    cases hx with
    | slice hm hl hcp hex hsz' =>
    rename_i C cb
    unfold appendTo at hv
    split at hv
    · -- nothing
      rename_i hn
      have hn : n = 0 := by simpa using hn
      subst hn
      cases hv
      refine ⟨_, w, append_in hu hs hb hts ty a1 (by omega) (fun a ha => ?_) (fun ha => by cases ha), Post.of rfl (Same.refl w) r (.slice hm hl hcp hex hsz')⟩
      cases ha
      rw [vs0 rfl]; rfl
    · -- in its room
      rename_i hn hle
      have hle : len + n ≤ cap := by simpa using hle
      split at hv <;> first | (simp at hv; done) | skip
      rename_i h1 hw
      cases hv
      obtain ⟨cb', ob, k1, k2, k3, k4⟩ := r.write (P := P) hw a2 a3
      rw [hm] at k1; cases k1
      refine ⟨_, { w with heap := w.heap.setIfInBounds cb.blk ob }, append_in hu hs hb hts ty a1 (by omega) (fun a ha => ?_) (fun ha => by cases ha), m, .slice hm hle hcp hex hsz', k3, k4, ⟨rfl, rfl, rfl⟩⟩
      cases ha
      rw [addr_add]
      exact k2
    · -- it grows
      rename_i hn hle
      have hle : ¬ len + n ≤ cap := by simpa using hle
      have hn : n ≠ 0 := by simpa using hn
      unfold growSlice at hv
      split at hv <;> first | (simp at hv; done) | skip
      · rename_i old hg hold
        cases hv
        have hC : C = cap := hex rfl
        subst hC
        obtain ⟨cb', os, k1, k2, k3, k4, k5⟩ := r.at hold
        rw [hm] at k1; cases k1
        obtain ⟨c', c1, c2⟩ := append_out (base := some ⟨cb.blk, o, none⟩) (l := len) (c := C) (old := os.toArray) hu hs hb hzv hts ty a1 hle hg (fun w' hw' => by
          unfold Builtin.firstCells; rw [← k3]; exact run_loadCells (by rw [hw']; exact k5))
        refine ⟨_, _, c2, ?_⟩
        refine PostX.lift (fl := some h.next) ?_ (fun b hb => by cases hb; exact Nat.le_refl _)
        refine grown_post r (NewAt.new r _) (k2.append a2) (fun x hx => ?_) ?_ c1 (zeroCells_len hsz (c' - (len + n))) (by simp) rfl ⟨rfl, rfl, rfl⟩
        · rcases List.mem_append.1 hx with hx | hx
          · exact k4 x hx
          · exact a3 x hx
        · rw [List.length_append, k3, a4, Nat.add_mul]
      · rename_i old hg hold
        split at hv <;> first | (simp at hv; done) | skip
        rename_i hro ho he
        cases hv
        have ho : o = 0 := by simpa using ho
        subst ho
        obtain ⟨cb', fl, e', ro, q1, q2, q3, q4, q5⟩ := r.cellsR hold
        rw [hm] at q1; cases q1
        rw [hro] at q3; cases q3
        by_cases hroom : len + n ≤ C
        · -- in place after all
          have he' : e' = e := by
            have he : h.elemAt b = e := by simpa using he
            rw [← he]
            unfold AH.elemAt
            unfold AH.cellsAt at hold
            split at hold <;> first | (simp at hold; done) | skip
            · rename_i cs e1 ro1 hb1
              obtain ⟨cb2, p1, p2⟩ := r.dom b _ hb1
              rw [hm] at p1; cases p1
              obtain ⟨c3, fz3, t1, _⟩ := q2
              obtain ⟨c4, fz4, t2, _⟩ := p2
              rw [t1] at t2; cases t2; rfl
            · rename_i s1 rs e1 ro1 hb1
              obtain ⟨cb2, p1, p2, p3, p4⟩ := r.dom b _ hb1
              rw [hm] at p1; cases p1
              obtain ⟨c3, fz3, t1, _⟩ := q2
              obtain ⟨c4, fz4, t2, _⟩ := p4
              rw [t1] at t2; cases t2; rfl
          subst he'
          have hfl : len * (s + 1) ≤ fl.length := by
            rcases Nat.eq_zero_or_pos (len * (s + 1)) with q | q
            · omega
            · have := q4 q; omega
          have hC : (len + n) * (s + 1) ≤ C * (s + 1) := Nat.mul_le_mul_right _ hroom
          have hC2 : (len + n) * (s + 1) = len * (s + 1) + n * (s + 1) := Nat.add_mul ..
          obtain ⟨ob, g1, g2⟩ := inplace_cells (P := P) q2 (old := old) (k := len * (s + 1)) (by rw [q5]; simp) hfl a2 a3 (by rw [a4]; omega)
          obtain ⟨x0, hx0, hown⟩ : ∃ x0, h.get b = some x0 ∧ x0.own = true := by
            unfold AH.roAt at hro
            split at hro
            · rename_i hb1; cases hro; exact ⟨_, hb1, rfl⟩
            · rename_i hb1; cases hro; exact ⟨_, hb1, rfl⟩
            · simp at hro
          obtain ⟨r1, f1⟩ := r.put (y := .cells (old ++ new) e' false) (o := ob) hx0 hown hm g2
          obtain ⟨m', r2, f2, hm'⟩ := r1.rename (b := b) (x := .cells (old ++ new) e' false) (by rw [AH.get_put]; simp) hm
          have hgeq : ∀ c, ((h.del b).new (.cells (old ++ new) e' false)).get c = (((h.put b (.cells (old ++ new) e' false)).del b).new (.cells (old ++ new) e' false)).get c := by
            intro c
            simp only [AH.get_new, AH.get_del, AH.get_put, AH.next_del, AH.next_put]
            split
            · rfl
            · split <;> rfl
          have hneq : ((h.del b).new (.cells (old ++ new) e' false)).next = (((h.put b (.cells (old ++ new) e' false)).del b).new (.cells (old ++ new) e' false)).next := by simp
          refine ⟨_, { w with heap := w.heap.setIfInBounds cb.blk ob }, append_in hu hs hb hts ty a1 hroom (fun a ha => ?_) (fun ha => by cases ha), m', ?_, r2.congr hgeq hneq, (f1.trans f2).congr hgeq hneq, ⟨rfl, rfl, rfl⟩⟩
          · cases ha
            rw [addr_add, Nat.zero_add]
            exact g1
          · exact .slice hm' (Nat.le_refl _) hroom (by simp) hsz'
        · obtain ⟨cb', os, k1, k2, k3, k4, k5⟩ := r.at hold
          rw [hm] at k1; cases k1
          obtain ⟨c', c1, c2⟩ := append_out (base := some ⟨cb.blk, 0, none⟩) (l := len) (c := C) (old := os.toArray) hu hs hb hzv hts ty a1 hroom hg (fun w' hw' => by
            unfold Builtin.firstCells; rw [← k3]; exact run_loadCells (by rw [hw']; exact k5))
          obtain ⟨r1, f1⟩ := r.del b
          have := grown_post (w := w) (e := e) (s := s) r1 (NewAt.new r1 (.cells (old ++ new) e false)) (k2.append a2) (fun x hx => by
            rcases List.mem_append.1 hx with hx | hx
            · exact k4 x hx
            · exact a3 x hx) (k := len + n) (by rw [List.length_append, k3, a4, Nat.add_mul]) c1 (zeroCells_len hsz (c' - (len + n))) (c := os.toArray ++ vs.toArray ++ Builtin.zeroCells zv.cells (c' - (len + n))) (by simp)
            (w' := { w with drawn := w.drawn + 1, heap := w.heap.push (.cells (os.toArray ++ vs.toArray ++ Builtin.zeroCells zv.cells (c' - (len + n))) e) }) rfl ⟨rfl, rfl, rfl⟩
          obtain ⟨m', p1, p2, p3, p4⟩ := PostX.lift this (fun b hb => by cases hb; exact Nat.le_refl _)
          exact ⟨_, _, c2, m', p1, p2, f1.trans p3, p4⟩
end
end Go.Ab
