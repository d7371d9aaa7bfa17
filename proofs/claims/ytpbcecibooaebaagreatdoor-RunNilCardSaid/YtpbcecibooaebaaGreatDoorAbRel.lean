/-
  How the abstract machine's values, frames and heap stand to the model's.
-/
import Derived.Test.YtpbcecibooaebaaGreatDoorAbBase
import Derived.Test.YtpbcecibooaebaaGreatDoorAbCmp
import Derived.Calls
namespace Go.Ab

/-- where a block lies: the model's block, how many cells that has -/
structure CB where
  blk : Nat
  size : Nat

abbrev Mp := Nat → Option CB

/-- the values that are handed through; the program -/
structure Cx where
  ext : Nat → Value
  prog : Program

def leafV : Value → Bool
  | .agg _ | .tuple _ => false
  | _ => true

def Ext (m m' : Mp) : Prop := ∀ b cb, m b = some cb → m' b = some cb

theorem Ext.refl (m : Mp) : Ext m m := fun _ _ h => h
theorem Ext.trans {m m' m'' : Mp} (h : Ext m m') (h' : Ext m' m'') : Ext m m'' := fun b cb e => h' b cb (h b cb e)

inductive VR (E : Cx) (m : Mp) : AV → Value → Prop
  | bool (b : Bool) : VR E m (.bool b) (.bool b)
  | int (k : IntKind) (n : Int) : VR E m (.int k n) (.int k n)
  | str (s : List UInt8) : VR E m (.str s) (.string ⟨⟨s⟩⟩)
  | nilp : VR E m .nilp (.pointer none)
  | ptr {b o : Nat} {cb : CB} (h : m b = some cb) : VR E m (.ptr b o) (.pointer (some ⟨cb.blk, o, none⟩))
  | nils : VR E m .nils (.slice none 0 0)
  | emp (a : Addr) (c : Nat) : VR E m .emp (.slice (some a) 0 c)
  | slice {b o len cap : Nat} {ex : Bool} {s c : Nat} {cb : CB} (h : m b = some cb) (hl : len ≤ cap) (hc : cap ≤ c) (hx : ex = true → c = cap)
      (hs : o + c * s ≤ cb.size) : VR E m (.slice b o len cap ex s) (.slice (some ⟨cb.blk, o, none⟩) len c)
  | fn {f : Nat} {as bs : List AV} {vs ws : Array Value} (ha : as.length = vs.size) (h : ∀ (i : Nat) a v, as[i]? = some a → vs[i]? = some v → VR E m a v)
      (hb : bs.length = ws.size) (h' : ∀ (i : Nat) a v, bs[i]? = some a → ws[i]? = some v → VR E m a v) : VR E m (.fn f as bs) (.func (.func f) vs ws)
  | yield {b : Nat} {cb : CB} (h : m b = some cb) : VR E m (.yield b) (.func (.yield cb.blk) #[] #[])
  | nilf : VR E m .nilf .nilFunc
  | iface {t : Nat} {a : AV} {v : Value} (h : VR E m a v) : VR E m (.iface t a) (.iface t v)
  | nili : VR E m .nili .nilIface
  | agg {as : List AV} {vs : Array Value} (ha : as.length = vs.size) (hl : ∀ (i : Nat) v, vs[i]? = some v → leafV v = true)
      (h : ∀ (i : Nat) a v, as[i]? = some a → vs[i]? = some v → VR E m a v) : VR E m (.agg as) (.agg vs)
  | tup {as : List AV} {vs : Array Value} (ha : as.length = vs.size) (h : ∀ (i : Nat) a v, as[i]? = some a → vs[i]? = some v → VR E m a v) : VR E m (.tup as) (.tuple vs)
  | any {v : Value} (h : leafV v = true) : VR E m .any v
  | ext {i : Nat} (h : leafV (E.ext i) = true) : VR E m (.ext i) (E.ext i)
  | mapv {b : Nat} {cb : CB} (h : m b = some cb) : VR E m (.mapv b) (.map (some cb.blk))
  | nilm : VR E m .nilm (.map none)
  | res {k : IntKind} {q r : Nat} {x : Int} (h : x % 18446744073709551616 % (q : Int) = (r : Int)) (hu : k = .u64 → 0 ≤ x ∧ x < 18446744073709551616) : VR E m (.res k q r) (.int k x)

section
variable {E : Cx} {m m' : Mp}

theorem VR.mono (hm : Ext m m') {a : AV} {v : Value} (h : VR E m a v) : VR E m' a v := by
  induction h with
  | bool b => exact .bool b
  | int k n => exact .int k n
  | str s => exact .str s
  | nilp => exact .nilp
  | ptr h => exact .ptr (hm _ _ h)
  | nils => exact .nils
  | emp a c => exact .emp a c
  | slice h hl hc hx hs => exact .slice (hm _ _ h) hl hc hx hs
  | fn ha _ hb _ ih ih' => exact .fn ha ih hb ih'
  | yield h => exact .yield (hm _ _ h)
  | nilf => exact .nilf
  | iface _ ih => exact .iface ih
  | nili => exact .nili
  | agg ha hl _ ih => exact .agg ha hl ih
  | tup ha _ ih => exact .tup ha ih
  | any h => exact .any h
  | ext h => exact .ext h
  | res h hu => exact .res h hu
  | mapv h => exact .mapv (hm _ _ h)
  | nilm => exact .nilm

/-- lists, value by value -/
def LR (E : Cx) (m : Mp) (as : List AV) (vs : List Value) : Prop :=
  as.length = vs.length ∧ ∀ (i : Nat) a v, as[i]? = some a → vs[i]? = some v → VR E m a v

theorem LR.mono (hm : Ext m m') {as : List AV} {vs : List Value} (h : LR E m as vs) : LR E m' as vs :=
  ⟨h.1, fun i a v ha hv => (h.2 i a v ha hv).mono hm⟩

theorem LR.nil : LR E m [] [] := ⟨rfl, fun i a v h => by simp at h⟩

theorem LR.cons {a : AV} {v : Value} {as : List AV} {vs : List Value} (h : VR E m a v) (t : LR E m as vs) : LR E m (a :: as) (v :: vs) := by
  refine ⟨by simp [t.1], fun i b w hb hw => ?_⟩
  cases i with
  | zero => simp at hb hw; subst hb; subst hw; exact h
  | succ i => exact t.2 i b w (by simpa using hb) (by simpa using hw)

theorem LR.head {a : AV} {v : Value} {as : List AV} {vs : List Value} (h : LR E m (a :: as) (v :: vs)) : VR E m a v := h.2 0 a v rfl rfl
theorem LR.tail {a : AV} {v : Value} {as : List AV} {vs : List Value} (h : LR E m (a :: as) (v :: vs)) : LR E m as vs :=
  ⟨by simpa using h.1, fun i b w hb hw => h.2 (i + 1) b w (by simpa using hb) (by simpa using hw)⟩

theorem LR.nil_inv {vs : List Value} (h : LR E m [] vs) : vs = [] := List.eq_nil_of_length_eq_zero (by simpa using h.1.symm)
theorem LR.cons_inv {a : AV} {as : List AV} {vs : List Value} (h : LR E m (a :: as) vs) : ∃ v ws, vs = v :: ws ∧ VR E m a v ∧ LR E m as ws := by
  cases vs with
  | nil => exact absurd h.1 (by simp)
  | cons v ws => exact ⟨v, ws, rfl, h.head, h.tail⟩

theorem LR.append {as bs : List AV} {vs ws : List Value} (h : LR E m as vs) (h' : LR E m bs ws) : LR E m (as ++ bs) (vs ++ ws) := by
  refine ⟨by simp [h.1, h'.1], fun i a v ha hv => ?_⟩
  by_cases hi : i < as.length
  · rw [List.getElem?_append_left hi] at ha
    rw [List.getElem?_append_left (by rw [← h.1]; exact hi)] at hv
    exact h.2 i a v ha hv
  · rw [List.getElem?_append_right (by omega)] at ha
    rw [List.getElem?_append_right (by rw [← h.1]; omega)] at hv
    rw [← h.1] at hv
    exact h'.2 _ a v ha hv

theorem LR.take {as : List AV} {vs : List Value} (h : LR E m as vs) (n : Nat) : LR E m (as.take n) (vs.take n) := by
  refine ⟨by simp [h.1], fun i a v ha hv => ?_⟩
  rw [List.getElem?_take] at ha hv
  split at ha
  · rw [if_pos (by assumption)] at hv; exact h.2 i a v ha hv
  · simp at ha

theorem LR.drop {as : List AV} {vs : List Value} (h : LR E m as vs) (n : Nat) : LR E m (as.drop n) (vs.drop n) := by
  refine ⟨by simp [h.1], fun i a v ha hv => ?_⟩
  rw [List.getElem?_drop] at ha hv
  exact h.2 _ a v ha hv

/-- the cells of two values that are related -/
theorem VR.cells {a : AV} {v : Value} (h : VR E m a v) (hh : a.held = true) : LR E m a.cells v.cells.toList ∧ ∀ x ∈ v.cells.toList, leafV x = true := by
  have one : ∀ {a : AV} {v : Value}, VR E m a v → a.cells = [a] → v.cells = #[v] → leafV v = true → LR E m a.cells v.cells.toList ∧ ∀ x ∈ v.cells.toList, leafV x = true := by
    intro a v h h1 h2 h3
    rw [h1, h2]
    exact ⟨LR.cons h LR.nil, fun x hx => by simp at hx; subst hx; exact h3⟩
  cases h with
  | agg ha hl h =>
    refine ⟨⟨by simp [AV.cells, Value.cells, ha], fun i a v h1 h2 => h i a v h1 (by simpa [Value.cells] using h2)⟩, fun x hx => ?_⟩
    simp only [Value.cells, Array.mem_toList_iff] at hx
    obtain ⟨i, hi, rfl⟩ := Array.mem_iff_getElem.1 hx
    exact hl i _ (by simp [hi])
  | tup ha h => simp [AV.held] at hh
  | any h => exact one (.any h) rfl (by cases v <;> first | rfl | simp [leafV] at h) h
  | ext h => exact one (.ext h) rfl (by
      rename_i i
      cases hE : E.ext i <;> first | rfl | (rw [hE] at h; simp [leafV] at h)) h
  | res h hu => exact one (.res h hu) rfl rfl rfl
  | mapv h => exact one (.mapv h) rfl rfl rfl
  | nilm => exact one .nilm rfl rfl rfl
  | bool b => exact one (.bool b) rfl rfl rfl
  | int k n => exact one (.int k n) rfl rfl rfl
  | str s => exact one (.str s) rfl rfl rfl
  | nilp => exact one .nilp rfl rfl rfl
  | ptr h => exact one (.ptr h) rfl rfl rfl
  | nils => exact one .nils rfl rfl rfl
  | emp a c => exact one (.emp a c) rfl rfl rfl
  | slice h hl hc hx hs => exact one (.slice h hl hc hx hs) rfl rfl rfl
  | fn ha h hb h' => exact one (.fn ha h hb h') rfl rfl rfl
  | yield h => exact one (.yield h) rfl rfl rfl
  | nilf => exact one .nilf rfl rfl rfl
  | iface h => exact one (.iface h) rfl rfl rfl
  | nili => exact one .nili rfl rfl rfl

/-- a frame -/
def FR (E : Cx) (m : Mp) (tm : FT) (tmps : Array Value) : Prop := ∀ i, VR E m (nth tm i) (tmps.getD i Go.undef)

theorem VR.undef : VR E m Ab.undef Go.undef := .tup (by simp) (fun i a v h => by simp at h)

theorem FR.mono (hm : Ext m m') {tm : FT} {tmps : Array Value} (h : FR E m tm tmps) : FR E m' tm tmps := fun i => (h i).mono hm

theorem FR.put {tm : FT} {tmps : Array Value} (h : FR E m tm tmps) {d : Nat} (hd : d < tmps.size) {a : AV} {v : Value} (hv : VR E m a v) :
    FR E m (setNth tm a d) (tmps.setIfInBounds d v) := by
  intro i
  rw [nth_setNth]
  by_cases hi : d = i
  · subst hi
    rw [if_pos rfl]
    simp [Array.getD_eq_getD_getElem?, hd, hv]
  · rw [if_neg hi]
    have := h i
    simpa [Array.getD_eq_getD_getElem?, Array.getElem?_setIfInBounds, hi] using this

/-! the heap -/

abbrev Hp := Array Obj

def CellsR (E : Cx) (m : Mp) (cs : List AV) (e : Nat) (ro : Bool) (cb : CB) (hp : Hp) : Prop :=
  ∃ (c : Array Value) (fz : Nat × Nat), hp[cb.blk]? = some (.cells c e fz) ∧ c.size = cb.size ∧ cs.length ≤ cb.size ∧
    (∀ (i : Nat) a, cs[i]? = some a → ∃ v, c[i]? = some v ∧ VR E m a v ∧ leafV v = true) ∧
    (ro = false → fz.1 = fz.2 ∨ cb.size ≤ fz.1)

/-- how far a loop's record is -/
def LSR (st : LS) (r : Loop) : Prop :=
  match st with
  | .ready => r.state = .ready ∧ r.pending = none
  | .busy => r.state = .busy ∧ r.pending = none
  | .done (.exit id) => r.state = .done ∧ r.pending = some (.exit id)
  | .done .ret => r.state = .done ∧ r.pending = some .ret
  | .done .normal => False
  | .over => r.state = .exhausted

/-- a map's entries -/
def MapR (E : Cx) (m : Mp) : List (List UInt8 × AV) → List MapEntry → Prop
  | [], [] => True
  | e :: es, x :: xs => (x.key = .string ⟨⟨e.1⟩⟩ ∧ VR E m e.2 x.val ∧ leafV x.val = true) ∧ MapR E m es xs
  | _, _ => False

theorem MapR.mono (hm : Ext m m') : ∀ {es : List (List UInt8 × AV)} {xs : List MapEntry}, MapR E m es xs → MapR E m' es xs
  | [], [], _ => trivial
  | _ :: _, _ :: _, h => ⟨⟨h.1.1, h.1.2.1.mono hm, h.1.2.2⟩, MapR.mono hm h.2⟩
  | [], _ :: _, h => h.elim
  | _ :: _, [], h => h.elim

def BR (E : Cx) (m : Mp) (x : Blk) (cb : CB) (hp : Hp) : Prop :=
  match x with
  | .cells cs e ro => CellsR E m cs e ro cb hp
  | .rows s rs e ro => 0 < s ∧ (∀ r ∈ rs, r.length = s) ∧ CellsR E m rs.flatten e ro cb hp
  | .iter s pos => hp[cb.blk]? = some (.stringIter ⟨⟨s⟩⟩ pos)
  | .map es => ∃ xs clock, hp[cb.blk]? = some (.map xs clock) ∧ MapR E m es xs.toList
  | .loop tm ps asg body st => ∃ (r : Loop) (nt : Nat), hp[cb.blk]? = some (.loop r) ∧ r.params.toList = ps ∧ (∀ p ∈ ps, p < nt) ∧ cCode E.prog nt true r.assign = asg ∧
      cCode E.prog nt true r.body = body ∧ r.tmps.size = nt ∧ (∀ i, VR E m (nth tm i) (r.tmps.getD i Go.undef)) ∧ LSR st r

/-- may a block change? -/
def Blk.own : Blk → Bool
  | .cells _ _ ro | .rows _ _ _ ro => !ro
  | _ => true

structure Rel (E : Cx) (m : Mp) (h : AH) (hp : Hp) : Prop where
  dom : ∀ b x, h.get b = some x → ∃ cb, m b = some cb ∧ BR E m x cb hp
  inj : ∀ b b' x x' cb cb', h.get b = some x → h.get b' = some x' → m b = some cb → m b' = some cb' → b ≠ b' → (x.own = true ∨ x'.own = true) → cb.blk ≠ cb'.blk
  fresh : ∀ b, h.next ≤ b → m b = none

theorem CellsR.mono (hm : Ext m m') {cs : List AV} {e : Nat} {ro : Bool} {cb : CB} {hp : Hp} (h : CellsR E m cs e ro cb hp) : CellsR E m' cs e ro cb hp := by
  obtain ⟨c, fz, h1, h2, h3, h4, h5⟩ := h
  exact ⟨c, fz, h1, h2, h3, fun i a ha => let ⟨v, hv, hr, hl⟩ := h4 i a ha; ⟨v, hv, hr.mono hm, hl⟩, h5⟩

theorem BR.mono (hm : Ext m m') {x : Blk} {cb : CB} {hp : Hp} (h : BR E m x cb hp) : BR E m' x cb hp := by
  cases x with
  | cells cs e ro => exact CellsR.mono hm h
  | rows s rs e ro => exact ⟨h.1, h.2.1, h.2.2.mono hm⟩
  | iter s pos => exact h
  | map es => obtain ⟨xs, clock, h1, h2⟩ := h; exact ⟨xs, clock, h1, h2.mono hm⟩
  | loop =>
    obtain ⟨r, nt, h1, h2, h3, h4, h5, h6, h7, h8⟩ := h
    exact ⟨r, nt, h1, h2, h3, h4, h5, h6, fun i => (h7 i).mono hm, h8⟩

/-- it hangs on its own block alone -/
theorem BR.of_eq {x : Blk} {cb : CB} {hp hp' : Hp} (h : BR E m x cb hp) (he : hp'[cb.blk]? = hp[cb.blk]?) : BR E m x cb hp' := by
  have c : ∀ {cs : List AV} {e : Nat} {ro : Bool}, CellsR E m cs e ro cb hp → CellsR E m cs e ro cb hp' := by
    rintro cs e ro ⟨c, fz, h1, h2⟩
    exact ⟨c, fz, by rw [he]; exact h1, h2⟩
  cases x with
  | cells cs e ro => exact c h
  | rows s rs e ro => exact ⟨h.1, h.2.1, c h.2.2⟩
  | iter s pos => show _ = _; rw [he]; exact h
  | map es => obtain ⟨xs, clock, h1, h2⟩ := h; exact ⟨xs, clock, by rw [he]; exact h1, h2⟩
  | loop =>
    obtain ⟨r, nt, h1, h2⟩ := h
    exact ⟨r, nt, by rw [he]; exact h1, h2⟩

theorem BR.lt {x : Blk} {cb : CB} {hp : Hp} (h : BR E m x cb hp) : cb.blk < hp.size := by
  have lt : ∀ {o : Obj}, hp[cb.blk]? = some o → cb.blk < hp.size := by
    intro o ho
    rcases Nat.lt_or_ge cb.blk hp.size with h | h
    · exact h
    · rw [Array.getElem?_eq_none h] at ho; simp at ho
  cases x with
  | cells cs e ro => obtain ⟨c, fz, h1, _⟩ := h; exact lt h1
  | rows s rs e ro => obtain ⟨c, fz, h1, _⟩ := h.2.2; exact lt h1
  | iter s pos => exact lt h
  | map es => obtain ⟨xs, clock, h1, _⟩ := h; exact lt h1
  | loop =>
    obtain ⟨r, nt, h1, _⟩ := h
    exact lt h1

theorem Rel.lt_next {h : AH} {hp : Hp} (r : Rel E m h hp) {b : Nat} {x : Blk} (hb : h.get b = some x) : b < h.next := by
  rcases Nat.lt_or_ge b h.next with hl | hl
  · exact hl
  · obtain ⟨cb, hm, _⟩ := r.dom b x hb
    rw [r.fresh b hl] at hm; simp at hm

/-- the blocks of the model that the abstract heap may change -/
def Owned (m : Mp) (h : AH) (k : Nat) : Prop := ∃ b x cb, h.get b = some x ∧ x.own = true ∧ m b = some cb ∧ cb.blk = k

/-- the blocks of the model that the abstract heap knows -/
def Present (m : Mp) (h : AH) (k : Nat) : Prop := ∃ b x cb, h.get b = some x ∧ m b = some cb ∧ cb.blk = k

theorem Owned.present {m : Mp} {h : AH} {k : Nat} (o : Owned m h k) : Present m h k := let ⟨b, x, cb, h1, _, h3, h4⟩ := o; ⟨b, x, cb, h1, h3, h4⟩

/-- what a call leaves as it was; fl: a name that is given a block though it was reserved -/
structure FrX (fl : Option Nat) (m : Mp) (h : AH) (hp : Hp) (m' : Mp) (h' : AH) (hp' : Hp) : Prop where
  size : hp.size ≤ hp'.size
  keep : ∀ k, k < hp.size → ¬ Owned m h k → hp'[k]? = hp[k]?
  own : ∀ k, k < hp.size → Owned m' h' k → Owned m h k
  pres : ∀ k, k < hp.size → Present m' h' k → Present m h k
  ext : Ext m m'
  next : h.next ≤ h'.next
  dom : ∀ b, b < h.next → m b = none → some b ≠ fl → m' b = none

abbrev Fr := FrX none

theorem FrX.lift {fl : Option Nat} {m m' : Mp} {h h' : AH} {hp hp' : Hp} (f : FrX fl m h hp m' h' hp') (hf : ∀ b, fl = some b → h.next ≤ b) : Fr m h hp m' h' hp' :=
  ⟨f.size, f.keep, f.own, f.pres, f.ext, f.next, fun b hb hm _ => f.dom b hb hm (fun e => by have := hf b e.symm; omega)⟩

theorem Fr.refl (m : Mp) (h : AH) (hp : Hp) : Fr m h hp m h hp := ⟨Nat.le_refl _, fun _ _ _ => rfl, fun _ _ h => h, fun _ _ h => h, Ext.refl m, Nat.le_refl _, fun _ _ h _ => h⟩

theorem Fr.trans {m m1 m2 : Mp} {h h1 h2 : AH} {hp hp1 hp2 : Hp} (a : Fr m h hp m1 h1 hp1) (b : Fr m1 h1 hp1 m2 h2 hp2) : Fr m h hp m2 h2 hp2 :=
  ⟨Nat.le_trans a.size b.size,
   fun k hk ho => by
     have := b.keep k (Nat.lt_of_lt_of_le hk a.size) (fun hc => ho (a.own k hk hc))
     rw [this, a.keep k hk ho],
   fun k hk ho => a.own k hk (b.own k (Nat.lt_of_lt_of_le hk a.size) ho),
   fun k hk ho => a.pres k hk (b.pres k (Nat.lt_of_lt_of_le hk a.size) ho),
   a.ext.trans b.ext, Nat.le_trans a.next b.next, fun c hc hm hn => b.dom c (Nat.lt_of_lt_of_le hc a.next) (a.dom c hc hm hn) hn⟩

/-- a heap with a block more, under a name that no other has -/
structure NewAt (m : Mp) (h : AH) (b : Nat) (x : Blk) (h' : AH) : Prop where
  free : m b = none
  get : ∀ c, h'.get c = if b = c then some x else h.get c
  next : h.next ≤ h'.next
  lt : b < h'.next

theorem NewAt.new {h : AH} {hp : Hp} (r : Rel E m h hp) (x : Blk) : NewAt m h h.next x (h.new x) :=
  ⟨r.fresh _ (Nat.le_refl _), fun c => AH.get_new h c x, by simp, by simp⟩

/-- a new block -/
theorem Rel.newAt {h h' : AH} {hp : Hp} (r : Rel E m h hp) {b : Nat} {x : Blk} (na : NewAt m h b x h') {o : Obj} {sz : Nat}
    (hx : ∀ m', Ext m m' → BR E m' x ⟨hp.size, sz⟩ (hp.push o)) :
    ∃ m', Rel E m' h' (hp.push o) ∧ FrX (some b) m h hp m' h' (hp.push o) ∧ m' b = some ⟨hp.size, sz⟩ := by
  let m' : Mp := fun c => if c = b then some ⟨hp.size, sz⟩ else m c
  have hm : Ext m m' := by
    intro c cb hc
    have : c ≠ b := fun e => by rw [e, na.free] at hc; simp at hc
    simp [m', this, hc]
  have hlt : ∀ c y cb, h.get c = some y → m c = some cb → cb.blk < hp.size := by
    intro c y cb hb hc
    obtain ⟨cb', h1, h2⟩ := r.dom c y hb
    rw [hc] at h1; cases h1
    exact h2.lt
  have old : ∀ k, k < hp.size → (hp.push o)[k]? = hp[k]? := fun k hk => by rw [Array.getElem?_push]; rw [if_neg (by omega)]
  refine ⟨m', ⟨?_, ?_, ?_⟩, ⟨by simp, fun k hk _ => old k hk, ?_, ?_, hm, na.next, fun c _ hc hn => by simp only [m']; rw [if_neg (fun e => hn (by rw [e]))]; exact hc⟩, by simp [m']⟩
  · intro c y hb
    rw [na.get] at hb
    by_cases e : b = c
    · rw [if_pos e] at hb; cases hb
      exact ⟨⟨hp.size, sz⟩, by simp [m', e], hx m' hm⟩
    · rw [if_neg e] at hb
      obtain ⟨cb, h1, h2⟩ := r.dom c y hb
      exact ⟨cb, hm _ _ h1, (h2.mono hm).of_eq (old _ h2.lt)⟩
  · intro c c' y y' cb cb' hb hb' hc hc' hne ho
    rw [na.get] at hb hb'
    by_cases e : b = c
    · rw [if_pos e] at hb
      rw [if_neg (by rw [e]; exact hne)] at hb'
      have e' : c' ≠ b := fun q => hne (by rw [q, e])
      have q : m' c = some ⟨hp.size, sz⟩ := if_pos e.symm
      have q' : m' c' = m c' := if_neg e'
      rw [q] at hc; cases hc
      have := hlt c' y' cb' hb' (q' ▸ hc')
      exact fun z => by simp at z; omega
    · rw [if_neg e] at hb
      have e1 : c ≠ b := fun q => e q.symm
      have q : m' c = m c := if_neg e1
      rw [q] at hc
      by_cases e' : b = c'
      · have q' : m' c' = some ⟨hp.size, sz⟩ := if_pos e'.symm
        rw [q'] at hc'; cases hc'
        have := hlt c y cb hb hc
        exact fun z => by simp at z; omega
      · rw [if_neg e'] at hb'
        have e2 : c' ≠ b := fun q => e' q.symm
        have q' : m' c' = m c' := if_neg e2
        rw [q'] at hc'
        exact r.inj c c' y y' cb cb' hb hb' hc hc' hne ho
  · intro c hb
    have := na.lt
    have e : c ≠ b := by omega
    have := na.next
    simp [m', e, r.fresh c (by omega)]
  · rintro k hk ⟨c, y, cb, hb, ho, hc, rfl⟩
    rw [na.get] at hb
    by_cases e : b = c
    · have q : m' c = some ⟨hp.size, sz⟩ := if_pos e.symm
      rw [q] at hc; cases hc; simp at hk
    · rw [if_neg e] at hb
      have e1 : c ≠ b := fun q => e q.symm
      have q : m' c = m c := if_neg e1
      rw [q] at hc
      exact ⟨c, y, cb, hb, ho, hc, rfl⟩
  · rintro k hk ⟨c, y, cb, hb, hc, rfl⟩
    rw [na.get] at hb
    by_cases e : b = c
    · have q : m' c = some ⟨hp.size, sz⟩ := if_pos e.symm
      rw [q] at hc; cases hc; simp at hk
    · rw [if_neg e] at hb
      have e1 : c ≠ b := fun q => e q.symm
      have q : m' c = m c := if_neg e1
      rw [q] at hc
      exact ⟨c, y, cb, hb, hc, rfl⟩

/-- a block that is looked at no more -/
theorem Rel.del {h : AH} {hp : Hp} (r : Rel E m h hp) (b : Nat) : Rel E m (h.del b) hp ∧ Fr m h hp m (h.del b) hp := by
  have sub : ∀ {c x}, (h.del b).get c = some x → h.get c = some x := by
    intro c x hc
    rw [AH.get_del] at hc
    split at hc
    · simp at hc
    · exact hc
  refine ⟨⟨fun c x hc => r.dom c x (sub hc), fun c c' x x' cb cb' hc hc' => r.inj c c' x x' cb cb' (sub hc) (sub hc'), r.fresh⟩,
    ⟨Nat.le_refl _, fun _ _ _ => rfl, ?_, ?_, Ext.refl m, Nat.le_refl _, fun _ _ h _ => h⟩⟩
  · rintro k _ ⟨c, x, cb, h1, h2, h3, h4⟩
    exact ⟨c, x, cb, sub h1, h2, h3, h4⟩
  · rintro k _ ⟨c, x, cb, h1, h3, h4⟩
    exact ⟨c, x, cb, sub h1, h3, h4⟩

/-- a block is changed, and the model's with it -/
theorem Rel.put {h : AH} {hp : Hp} (r : Rel E m h hp) {b : Nat} {x y : Blk} {cb : CB} {o : Obj} (hb : h.get b = some x) (hx : x.own = true) (hc : m b = some cb)
    (hy : BR E m y cb (hp.setIfInBounds cb.blk o)) :
    Rel E m (h.put b y) (hp.setIfInBounds cb.blk o) ∧ Fr m h hp m (h.put b y) (hp.setIfInBounds cb.blk o) := by
  have other : ∀ k, k ≠ cb.blk → (hp.setIfInBounds cb.blk o)[k]? = hp[k]? := fun k hk => by
    rw [Array.getElem?_setIfInBounds]; rw [if_neg (fun e => hk e.symm)]
  refine ⟨⟨?_, ?_, r.fresh⟩, ⟨by simp, fun k hk ho => other k (fun e => ho ⟨b, x, cb, hb, hx, hc, e.symm⟩), ?_, ?_, Ext.refl m, Nat.le_refl _, fun _ _ h _ => h⟩⟩
  · intro c z hz
    rw [AH.get_put] at hz
    by_cases e : b = c
    · rw [if_pos e] at hz; cases hz
      exact ⟨cb, e ▸ hc, hy⟩
    · rw [if_neg e] at hz
      obtain ⟨cb', h1, h2⟩ := r.dom c z hz
      refine ⟨cb', h1, h2.of_eq (other _ ?_)⟩
      exact fun q => (r.inj b c x z cb cb' hb hz hc h1 e (.inl hx)) q.symm
  · intro c c' z z' cc cc' hz hz' hcc hcc' hne ho
    rw [AH.get_put] at hz hz'
    by_cases e : b = c
    · rw [if_neg (fun q => hne (e.symm.trans q))] at hz'
      exact r.inj c c' x z' cc cc' (e ▸ hb) hz' hcc hcc' hne (.inl hx)
    · rw [if_neg e] at hz
      by_cases e' : b = c'
      · exact r.inj c c' z x cc cc' hz (e' ▸ hb) hcc hcc' hne (.inr hx)
      · rw [if_neg e'] at hz'
        exact r.inj c c' z z' cc cc' hz hz' hcc hcc' hne ho
  · rintro k _ ⟨c, z, cc, h1, h2, h3, h4⟩
    rw [AH.get_put] at h1
    by_cases e : b = c
    · subst e
      exact ⟨b, x, cc, hb, hx, h3, h4⟩
    · rw [if_neg e] at h1
      exact ⟨c, z, cc, h1, h2, h3, h4⟩
  · rintro k _ ⟨c, z, cc, h1, h3, h4⟩
    rw [AH.get_put] at h1
    by_cases e : b = c
    · subst e
      exact ⟨b, x, cc, hb, h3, h4⟩
    · rw [if_neg e] at h1
      exact ⟨c, z, cc, h1, h3, h4⟩

/-- the abstract heap goes by what it holds -/
theorem Rel.congr {h h' : AH} {hp : Hp} (r : Rel E m h hp) (hg : ∀ b, h'.get b = h.get b) (hn : h'.next = h.next) : Rel E m h' hp :=
  ⟨fun b x hb => r.dom b x (by rw [← hg]; exact hb), fun b b' x x' cb cb' h1 h2 => r.inj b b' x x' cb cb' (by rw [← hg]; exact h1) (by rw [← hg]; exact h2),
    fun b hb => r.fresh b (by rw [← hn]; exact hb)⟩

/-- a block of the model's that the abstract heap knows nothing of -/
theorem Rel.push {h : AH} {hp : Hp} (r : Rel E m h hp) (o : Obj) : Rel E m h (hp.push o) ∧ Fr m h hp m h (hp.push o) := by
  have old : ∀ k, k < hp.size → (hp.push o)[k]? = hp[k]? := fun k hk => by rw [Array.getElem?_push]; rw [if_neg (by omega)]
  exact ⟨⟨fun b x hb => let ⟨cb, h1, h2⟩ := r.dom b x hb; ⟨cb, h1, h2.of_eq (old _ h2.lt)⟩, r.inj, r.fresh⟩,
    by simp, fun k hk _ => old k hk, fun _ _ h => h, fun _ _ h => h, Ext.refl m, Nat.le_refl _, fun _ _ h _ => h⟩

/-- a block goes on under another name -/
theorem Rel.rename {h : AH} {hp : Hp} (r : Rel E m h hp) {b : Nat} {x : Blk} {cb : CB} (hb : h.get b = some x) (hc : m b = some cb) :
    ∃ m', Rel E m' ((h.del b).new x) hp ∧ Fr m h hp m' ((h.del b).new x) hp ∧ m' h.next = some cb := by
  let m' : Mp := fun c => if c = h.next then some cb else m c
  have hm : Ext m m' := by
    intro c cc hcc
    have : c ≠ h.next := fun e => by rw [e, r.fresh _ (Nat.le_refl _)] at hcc; simp at hcc
    simp [m', this, hcc]
  -- what the new heap holds, the old one held, under a name
  let nm : Nat → Nat := fun c => if c = h.next then b else c
  have back : ∀ c z, ((h.del b).new x).get c = some z → h.get (nm c) = some z ∧ m' c = m (nm c) ∧ (c ≠ h.next → c ≠ b) := by
    intro c z hz
    rw [AH.get_new] at hz
    by_cases e : h.next = c
    · rw [AH.next_del, if_pos e] at hz; cases hz
      have e1 : c = h.next := e.symm
      refine ⟨by simp [nm, e1, hb], by simp [m', nm, e1, hc], fun q => absurd e1 q⟩
    · rw [AH.next_del, if_neg e, AH.get_del] at hz
      have e1 : c ≠ h.next := fun q => e q.symm
      split at hz
      · simp at hz
      · rename_i hne
        exact ⟨by simp [nm, e1, hz], by simp [m', nm, e1], fun _ q => hne q.symm⟩
  have hbn : b ≠ h.next := fun e => by rw [e, r.fresh _ (Nat.le_refl _)] at hc; simp at hc
  refine ⟨m', ⟨?_, ?_, ?_⟩, ⟨Nat.le_refl _, fun _ _ _ => rfl, ?_, ?_, hm, by simp, fun c hc hm' _ => by simp only [m']; rw [if_neg (by omega)]; exact hm'⟩, by simp [m']⟩
  · intro c z hz
    obtain ⟨h1, h2, _⟩ := back c z hz
    obtain ⟨cc, h3, h4⟩ := r.dom _ z h1
    exact ⟨cc, h2.trans h3, h4.mono hm⟩
  · intro c c' z z' cc cc' hz hz' hcc hcc' hne ho
    obtain ⟨h1, h2, h3⟩ := back c z hz
    obtain ⟨h1', h2', h3'⟩ := back c' z' hz'
    refine r.inj (nm c) (nm c') z z' cc cc' h1 h1' (h2.symm.trans hcc) (h2'.symm.trans hcc') ?_ ho
    intro e
    simp only [nm] at e
    by_cases e1 : c = h.next
    · by_cases e2 : c' = h.next
      · exact hne (e1.trans e2.symm)
      · rw [if_pos e1, if_neg e2] at e; exact h3' e2 e.symm
    · by_cases e2 : c' = h.next
      · rw [if_neg e1, if_pos e2] at e; exact h3 e1 e
      · rw [if_neg e1, if_neg e2] at e; exact hne e
  · intro c hcn
    simp at hcn
    have : c ≠ h.next := by omega
    simp [m', this, r.fresh c (by omega)]
  · rintro k _ ⟨c, z, cc, h1, h2, h3, h4⟩
    obtain ⟨k1, k2, _⟩ := back c z h1
    exact ⟨_, z, cc, k1, h2, k2.symm.trans h3, h4⟩
  · rintro k _ ⟨c, z, cc, h1, h3, h4⟩
    obtain ⟨k1, k2, _⟩ := back c z h1
    exact ⟨_, z, cc, k1, k2.symm.trans h3, h4⟩
end
end Go.Ab
