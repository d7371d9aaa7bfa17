/-
  The abstract machine's marks on bytes that strings share; the functions without a body.
-/
import Derived.Test.YtpbcecibooaebaaGreatDoorAbAct5
namespace Go.Ab
open Go

section
variable {E : Cx} {m : Mp} {P : Program}

def frz (fz : Nat × Nat) (o n : Nat) : Nat × Nat := if fz.1 == fz.2 then (o, o + n) else (min fz.1 o, max fz.2 (o + n))

theorem run_freeze {w : World} {b o n : Nat} {c : Array Value} {e : Nat} {fz : Nat × Nat} (h : w.heap[b]? = some (.cells c e fz)) (hn : n ≠ 0) :
    (freeze ⟨b, o, none⟩ n).run P w = .ok () { w with heap := w.heap.setIfInBounds b (.cells c e (frz fz o n)) } := by
  simp only [freeze, Sem.run, World.freeze]
  rw [if_neg hn, modify_cells h]
  rfl

/-- a block's frozen stretch is another -/
theorem Rel.refz {h : AH} {hp : Hp} (r : Rel E m h hp) {b : Nat} (hro : h.roAt b = some false) {cb : CB} (hm : m b = some cb) :
    ∃ c e fz, hp[cb.blk]? = some (.cells c e fz) ∧ c.size = cb.size ∧ (fz.1 = fz.2 ∨ cb.size ≤ fz.1) ∧
      ∀ fz', (fz'.1 = fz'.2 ∨ cb.size ≤ fz'.1) → Rel E m h (hp.setIfInBounds cb.blk (.cells c e fz')) ∧ Fr m h hp m h (hp.setIfInBounds cb.blk (.cells c e fz')) := by
  have same : ∀ x, h.get b = some x → ∀ c, (h.put b x).get c = h.get c := by
    intro x hx c
    rw [AH.get_put]
    split
    · rename_i e; rw [← e, hx]
    · rfl
  have lt : ∀ {o : Obj}, hp[cb.blk]? = some o → cb.blk < hp.size := by
    intro o ho
    rcases Nat.lt_or_ge cb.blk hp.size with q | q
    · exact q
    · rw [Array.getElem?_eq_none q] at ho; simp at ho
  have cells : ∀ {cs : List AV} {e : Nat}, CellsR E m cs e false cb hp → ∃ c fz, hp[cb.blk]? = some (.cells c e fz) ∧ c.size = cb.size ∧ (fz.1 = fz.2 ∨ cb.size ≤ fz.1) ∧
      ∀ fz', (fz'.1 = fz'.2 ∨ cb.size ≤ fz'.1) → CellsR E m cs e false cb (hp.setIfInBounds cb.blk (.cells c e fz')) := by
    rintro cs e ⟨c, fz, h1, h2, h3, h4, h5⟩
    exact ⟨c, fz, h1, h2, h5 rfl, fun fz' hf => ⟨c, fz', by simp [lt h1], h2, h3, h4, fun _ => hf⟩⟩
  unfold AH.roAt at hro
  split at hro
  · rename_i cs e ro hb
    cases hro
    obtain ⟨cb', h1, h2⟩ := r.dom b _ hb
    rw [hm] at h1; cases h1
    obtain ⟨c, fz, g1, g2, g3, g4⟩ := cells h2
    refine ⟨c, e, fz, g1, g2, g3, fun fz' hf => ?_⟩
    obtain ⟨k1, k2⟩ := r.put (y := .cells cs e false) hb rfl hm (g4 fz' hf)
    exact ⟨k1.congr (fun c => (same _ hb c).symm) rfl, k2.congr (fun c => (same _ hb c).symm) rfl⟩
  · rename_i s rs e ro hb
    cases hro
    obtain ⟨cb', h1, hs, hr, h2⟩ := r.dom b _ hb
    rw [hm] at h1; cases h1
    obtain ⟨c, fz, g1, g2, g3, g4⟩ := cells h2
    refine ⟨c, e, fz, g1, g2, g3, fun fz' hf => ?_⟩
    obtain ⟨k1, k2⟩ := r.put (y := .rows s rs e false) hb rfl hm ⟨hs, hr, g4 fz' hf⟩
    exact ⟨k1.congr (fun c => (same _ hb c).symm) rfl, k2.congr (fun c => (same _ hb c).symm) rfl⟩
  · simp at hro

theorem same_sound {h : AH} {w : World} (r : Rel E m h w.heap) {src dst t e : TypeId} (hs : P.underlying src = some (.slice t)) (hd : P.underlying dst = some (.slice e)) (he : isU8 P e = true)
    (heq : src = dst) {b o len cap : Nat} {ex : Bool} {s : Nat} {X : Value} (hx : VR E m (.slice b o len cap ex s) X) (hro : h.roAt b = some false) :
    ∃ y w', (convert src dst X).run P w = .ok y w' ∧ Post E m h w (.slice b o len cap ex s) h y w' := by
  cases hx with
  | slice hm hl hc hxx hsz =>
  rename_i C cb
  obtain ⟨c, e', fz, g1, g2, g3, g4⟩ := r.refz hro hm
  obtain ⟨k1, k2⟩ := g4 (frz fz c.size 1) (by
    unfold frz
    split
    · right; simp only; omega
    · right; simp only
      rename_i hne
      have : fz.1 ≠ fz.2 := by simpa using hne
      omega)
  refine ⟨.slice (some ⟨cb.blk, o, none⟩) len C, { w with heap := w.heap.setIfInBounds cb.blk (.cells c e' (frz fz c.size 1)) }, ?_, m, .slice hm hl hc hxx hsz, k1, k2, ⟨rfl, rfl, rfl⟩⟩
  have hu : P.underlying e = some (.int .u8) := by
    unfold isU8 at he
    split at he
    · assumption
    · simp at he
  unfold convert
  rw [bind_ok (run_underlying hs w), bind_ok (run_underlying hd w)]
  simp only [heq, beq_self_eq_true]
  rw [bind_ok (run_underlying hu w)]
  have hm' : (markStringish ⟨cb.blk, o, none⟩).run P w = .ok () { w with heap := w.heap.setIfInBounds cb.blk (.cells c e' (frz fz c.size 1)) } := by
    unfold markStringish
    rw [bind_ok (run_shape' g1)]
    exact run_freeze g1 (by omega)
  simp only
  rw [bind_ok hm']
  rfl

theorem run_loadBytes {w : World} {b : Nat} : ∀ (l : List AV) (s : List UInt8) (vs : List Value) (o : Nat) (acc : List UInt8), bytesOfCells l = some s → LR E m l vs → At w.heap b o vs →
    (Go.loadBytes ⟨b, o, none⟩ ⟨⟨acc⟩⟩ l.length).run P w = .ok ⟨⟨acc ++ s⟩⟩ w := by
  intro l
  induction l with
  | nil =>
    intro s vs o acc hb _ _
    cases (show some [] = some s from hb)
    simp [Go.loadBytes]
  | cons a l ih =>
    intro s vs o acc hb hl hat
    obtain ⟨n, q, rfl, h1, rfl⟩ := bytesOfCells_inv hb
    obtain ⟨v, ws, rfl, hv, hws⟩ := hl.cons_inv
    cases hv
    have hc := At.cell (w := w) hat (i := 0) (v := .int .u8 n) rfl
    rw [Nat.add_zero] at hc
    show (Go.loadBytes ⟨b, o, none⟩ ⟨⟨acc⟩⟩ (l.length + 1)).run P w = _
    unfold Go.loadBytes
    rw [bind_ok (run_load hc)]
    simp only
    rw [addr_add]
    have hat' : At w.heap b (o + 1) ws := by
      obtain ⟨c, e, fz, g1, g2⟩ := hat
      exact ⟨c, e, fz, g1, fun i v hi => by rw [show o + 1 + i = o + (i + 1) by omega]; exact g2 (i + 1) v (by simpa using hi)⟩
    have := ih q ws (o + 1) (acc ++ [UInt8.ofNat n.toNat]) h1 hws hat'
    rw [List.append_assoc] at this
    have e : (⟨⟨acc⟩⟩ : ByteArray).push (n.toNat.toUInt8) = ⟨⟨acc ++ [UInt8.ofNat n.toNat]⟩⟩ := by simp [ByteArray.push]
    rw [e]
    exact this

theorem ustr_sound {h h' : AH} {w : World} (r : Rel E m h w.heap) {t u : TypeId} (hu : P.underlying t = some (.pointer u)) (hcell : P.cellsOf u = 1) {p n v : AV} {X Y : Value}
    (hp : VR E m p X) (hn : VR E m n Y) (hv : austr u p n h = some (v, h')) {ts : Array TypeId} (hts : ts[0]? = some t) (ty : TypeId) :
    ∃ y w', (Builtin.unsafeString_ ts ty #[X, Y]).run P w = .ok y w' ∧ Post E m h w v h' y w' := by
  have helem : (elemOf t).run P w = .ok u w := by
    unfold elemOf
    rw [bind_ok (run_underlying hu w)]; rfl
  obtain ⟨bad1, bad2, start⟩ : ∃ bad1 bad2 : Sem Value, ∀ {a : Option Addr} {k : IntKind} {i : Nat}, i < 4611686018427387904 → ∀ {y : Value} {w' : World}, (match a with
      | none => if (i : Int) = 0 then (pure (Value.string .empty) : Sem Value) else bad1
      | some a => if (i : Int) = 0 then pure (Value.string .empty) else do
          let e ← elemOf t
          let b ← variablesAt a e i
          if b = true then do
            let s ← Go.loadBytes a .empty i
            freeze a i
            pure (.string s)
          else bad2).run P w = .ok y w' →
      (Builtin.unsafeString_ ts ty #[.pointer a, .int k (.ofNat i)]).run P w = .ok y w' := by
    refine ⟨?_, ?_, ?_⟩
    rotate_left 2
    intro a k i hi y w' hk
    obtain ⟨l⟩ := ts
    cases l with
    | nil => simp at hts
    | cons t' l =>
      have : t' = t := by simpa using hts
      subst this
      have hi' : (asInt (.int k (.ofNat i))).run P w = .ok (Int.ofNat i) w := rfl
      show Sem.run P (asInt (.int k (.ofNat i)) >>= _) w = _
      rw [bind_ok hi']
      dsimp only
      rw [show (({ toList := t' :: l } : Array TypeId)[0]?) = some t' from rfl]
      dsimp only
      have e8 : Int.ofNat i = (i : Int) := rfl
      rw [if_neg (by rw [e8]; omega)]
      rw [if_neg (by have e9 : IntKind.i64.max = 9223372036854775807 := rfl; rw [e9, e8]; omega)]
      cases a with
      | none => exact hk
      | some a => exact hk
  unfold austr at hv
  split at hv <;> first | (simp at hv; done) | skip
  · split at hv <;> first | (simp at hv; done) | skip
    · cases hv; cases hp; cases hn
      exact ⟨_, w, start (by omega) (by first | rfl | (simp; done) | (simp; rfl)), Post.of rfl (Same.refl w) r (.str [])⟩
    · cases hv; cases hp; cases hn
      exact ⟨_, w, start (by omega) (by first | rfl | (simp; done) | (simp; rfl)), Post.of rfl (Same.refl w) r (.str [])⟩
  · rename_i k i hi0
    split at hv <;> first | (simp at hv; done) | skip
    rename_i b o
    split at hv <;> first | (simp at hv; done) | skip
    rename_i cs e hb
    split at hv <;> first | (simp at hv; done) | skip
    rename_i q l h1 h2 h3
    split at hv <;> first | (simp at hv; done) | skip
    rename_i s hs
    cases hv
    have h1 : e = u := by simpa using h1
    subst h1
    have h2 : i < 4611686018427387904 := by simpa using h2
    rw [dropL_eq] at h3
    obtain ⟨h4, rfl⟩ := takeL_some.1 h3
    rw [List.length_drop] at h4
    have hi : i ≠ 0 := fun e => hi0 (by rw [e])
    cases hp with
    | ptr hm =>
    rename_i cb
    cases hn
    obtain ⟨cb', g0, g1⟩ := r.dom b _ hb
    rw [hm] at g0; cases g0
    obtain ⟨vs, a1, a2, a3, a4⟩ := CellsR.at g1 (o := o) (n := i) (fun _ => by omega)
    obtain ⟨c, fz, c1, c2, c3, c4, c5⟩ := g1
    have hlt : cb.blk < w.heap.size := by
      rcases Nat.lt_or_ge cb.blk w.heap.size with q | q
      · exact q
      · rw [Array.getElem?_eq_none q] at c1; simp at c1
    obtain ⟨r1, f1⟩ := r.put (y := .cells cs e true) (o := .cells c e (frz fz o i)) hb rfl hm ⟨c, frz fz o i, by simp [hlt], c2, c3, c4, by simp⟩
    refine ⟨.string ⟨⟨s⟩⟩, { w with heap := w.heap.setIfInBounds cb.blk (.cells c e (frz fz o i)) }, start h2 ?_, m, .str s, r1, f1, ⟨rfl, rfl, rfl⟩⟩
    simp only
    rw [if_neg (by omega), bind_ok helem]
    have hva2 : (variablesAt ⟨cb.blk, o, none⟩ e i).run P w = .ok true w := by
      unfold variablesAt
      have hp : (Go.program).run P w = .ok P w := rfl
      rw [bind_ok hp, bind_ok (run_shape' c1)]
      have hdep : P.depth = (2 * (P.types.size + Made.depth) + 1) + 1 := rfl
      have hl : liesAt P P.depth e (c.size / P.cellsOf e) o e i = true := by
        rw [hdep]
        simp only [liesAt]
        rw [hdep]
        simp only [rowAt, hcell]
        have h6 : o / 1 + i ≤ c.size / 1 := by simp only [Nat.div_one]; omega
        have h7 : sameLayout P (2 * (P.types.size + Made.depth) + 1 + 1) e e = true := by simp [sameLayout]
        simp only [Nat.div_one] at h6
        simp [h6, h7, Nat.mod_one]
      simp only [hl]
      rfl
    rw [bind_ok hva2]
    simp only [if_true]
    have hlen : ((cs.drop o).take i).length = i := by rw [List.length_take, List.length_drop]; omega
    have hlb := run_loadBytes (P := P) ((cs.drop o).take i) s vs o [] hs a1 a4
    rw [hlen, List.nil_append] at hlb
    have hlb' : (Go.loadBytes ⟨cb.blk, o, none⟩ .empty i).run P w = .ok ⟨⟨s⟩⟩ w := hlb
    rw [bind_ok hlb', bind_ok (run_freeze c1 hi)]
    rfl
end
end Go.Ab
