/-
  The abstract machine's basic functions: what they reckon.
-/
import Derived.Test.YtpbcecibooaebaaGreatDoorAbLang
namespace Go.Ab

/-! lists -/

theorem lenL_aux {α : Type} (l : List α) : ∀ n, (List.rec (motive := fun _ => Nat → Nat) (fun n => n) (fun _ _ ih n => withN (n + 1) ih) l : Nat → Nat) n = n + l.length := by
  induction l with
  | nil => intro n; rfl
  | cons a l ih => intro n; show withN (n + 1) _ = _; rw [show withN (n + 1) (List.rec (motive := fun _ => Nat → Nat) (fun n => n) (fun _ _ ih n => withN (n + 1) ih) l : Nat → Nat) = (List.rec (motive := fun _ => Nat → Nat) (fun n => n) (fun _ _ ih n => withN (n + 1) ih) l : Nat → Nat) (n + 1) from rfl, ih]; simp; omega

@[simp] theorem withN_eq {α : Type} (n : Nat) (k : Nat → α) : withN n k = k n := by cases n <;> rfl

@[simp] theorem withI_eq {α : Type} (n : Int) (k : Int → α) : withI n k = k n := by cases n <;> simp [withI]

@[simp] theorem withV_eq {α : Type} (v : AV) (k : AV → α) : withV v k = k v := by
  cases v <;> simp [withV]
  case bool b => cases b <;> rfl

@[simp] theorem lenL_eq {α : Type} (l : List α) : lenL l = l.length := by
  have := lenL_aux l 0; simpa [lenL] using this

@[simp] theorem dropL_eq {α : Type} (n : Nat) (l : List α) : dropL n l = l.drop n := by
  induction l generalizing n with
  | nil => simp [dropL]
  | cons a l ih =>
    cases n with
    | zero => rfl
    | succ n => show dropL n l = _; rw [ih]; rfl

theorem takeL_some {α : Type} {n : Nat} {l r : List α} : takeL n l = some r ↔ n ≤ l.length ∧ r = l.take n := by
  induction l generalizing n r with
  | nil =>
    cases n with
    | zero => show some [] = some r ↔ _; simp [eq_comm]
    | succ n => show none = some r ↔ _; simp
  | cons a l ih =>
    cases n with
    | zero => show some [] = some r ↔ _; simp [eq_comm]
    | succ n =>
      have h : takeL (n + 1) (a :: l) = (match takeL n l with | some r => some (a :: r) | none => none) := rfl
      rw [h]
      cases ht : takeL n l with
      | none =>
        simp only [reduceCtorEq, List.length_cons, List.take_succ_cons, false_iff]
        rintro ⟨h1, -⟩
        have := (ih (n := n) (r := l.take n)).2 ⟨by omega, rfl⟩
        rw [ht] at this; exact absurd this (by simp)
      | some q =>
        obtain ⟨h1, rfl⟩ := ih.1 ht
        simp only [Option.some.injEq, List.length_cons, List.take_succ_cons]
        exact ⟨fun h => ⟨by omega, h.symm⟩, fun h => h.2.symm⟩

theorem spliceL_some {α : Type} {vs : List α} {o : Nat} {cs r : List α} (h : spliceL vs o cs = some r) :
    o + vs.length ≤ cs.length ∧ r = cs.take o ++ vs ++ cs.drop (o + vs.length) := by
  induction cs generalizing o vs r with
  | nil =>
    cases o <;> cases vs <;> simp [spliceL] at h
    subst h; simp
  | cons a cs ih =>
    cases o with
    | succ o =>
      have e : spliceL vs (o + 1) (a :: cs) = (match spliceL vs o cs with | some r => some (a :: r) | none => none) := rfl
      rw [e] at h
      cases hs : spliceL vs o cs with
      | none => rw [hs] at h; simp at h
      | some q =>
        rw [hs] at h
        simp only [Option.some.injEq] at h
        obtain ⟨h1, h2⟩ := ih hs
        subst h
        refine ⟨by simp; omega, ?_⟩
        rw [h2]
        have : o + 1 + vs.length = (o + vs.length) + 1 := by omega
        simp [this]
    | zero =>
      cases vs with
      | nil =>
        have e : spliceL [] 0 (a :: cs) = some (a :: cs) := rfl
        rw [e] at h; simp at h; subst h; simp
      | cons v vs =>
        have e : spliceL (v :: vs) 0 (a :: cs) = (match spliceL vs 0 cs with | some r => some (v :: r) | none => none) := rfl
        rw [e] at h
        cases hs : spliceL vs 0 cs with
        | none => rw [hs] at h; simp at h
        | some q =>
          rw [hs] at h
          simp only [Option.some.injEq] at h
          obtain ⟨h1, h2⟩ := ih hs
          subst h
          refine ⟨by simp; omega, ?_⟩
          rw [h2]; simp

@[simp] theorem joinL_eq (rs : List (List AV)) : joinL rs = rs.flatten := by
  induction rs with
  | nil => rfl
  | cons r rs ih => show r ++ joinL rs = _; rw [ih]; rfl

theorem rep_length (z : List AV) (n : Nat) : (rep z n).length = n * z.length := by
  induction n with
  | zero => show ([] : List AV).length = _; simp
  | succ n ih => show (z ++ rep z n).length = _; simp [ih, Nat.succ_mul]; omega

theorem rep_succ (z : List AV) (n : Nat) : rep z (n + 1) = z ++ rep z n := rfl

theorem repR_flatten (z : List AV) (n : Nat) : (repR z n).flatten = rep z n := by
  induction n with
  | zero => rfl
  | succ n ih => show (z :: repR z n).flatten = z ++ rep z n; simp [ih]

theorem mem_repR {z r : List AV} {n : Nat} (h : r ∈ repR z n) : r = z := by
  induction n with
  | zero => exact absurd h (List.not_mem_nil)
  | succ n ih =>
    rcases List.mem_cons.1 (show r ∈ z :: repR z n from h) with h | h
    · exact h
    · exact ih h

/-! numbers -/

@[simp] theorem leN_eq (a b : Nat) : leN a b = decide (a ≤ b) := by
  simp only [leN]; rw [Bool.eq_iff_iff]; simp [Nat.ble_eq]
@[simp] theorem ltN_eq (a b : Nat) : ltN a b = decide (a < b) := by
  simp only [ltN]; rw [Bool.eq_iff_iff]; simp [Nat.ble_eq]; omega
@[simp] theorem eqN_eq (a b : Nat) : eqN a b = decide (a = b) := by
  simp only [eqN]; rw [Bool.eq_iff_iff]; simp [Nat.beq_eq]

@[simp] theorem leI_eq (a b : Int) : leI a b = decide (a ≤ b) := by
  cases a <;> cases b <;> rw [Bool.eq_iff_iff] <;> simp [leI, Nat.ble_eq] <;> omega
@[simp] theorem eqI_eq (a b : Int) : eqI a b = (a == b) := by
  cases a <;> cases b <;> rw [Bool.eq_iff_iff] <;> simp [eqI, Nat.beq_eq] <;> omega
@[simp] theorem ltI_eq (a b : Int) : ltI a b = decide (a < b) := by
  simp [ltI]; rw [Bool.eq_iff_iff]; simp

theorem sameK_iff {a b : IntKind} : sameK a b = true ↔ a = b := by
  cases a <;> cases b <;> simp [sameK]

theorem modI_eq (n : Int) (m : Nat) (h : 0 < m) : (modI n m : Int) = n % (m : Int) := by
  cases n with
  | ofNat a => simp [modI]
  | negSucc a =>
    simp only [modI]
    have h1 : a % m < m := Nat.mod_lt _ h
    rw [Int.negSucc_emod _ (by omega)]
    omega

theorem modOf_eq (k : IntKind) : (modOf k : Int) = 2 ^ k.bits := by cases k <;> rfl

theorem bitsOf_eq (k : IntKind) : bitsOf k = k.bits := by cases k <;> rfl

theorem unsW_eq (m : Nat) (h : 0 < m) (n : Int) : unsW m n = n % (m : Int) := modI_eq n m h

theorem sigW_eq (m q : Nat) (h : 0 < m) (n : Int) : sigW m q n = if n % (m : Int) ≥ (q : Int) then n % (m : Int) - m else n % (m : Int) := by
  have e := modI_eq n m h
  have hl : n % (m : Int) < m := Int.emod_lt_of_pos _ (by omega)
  simp only [sigW]
  cases hb : Nat.ble q (modI n m) with
  | true =>
    have : q ≤ modI n m := by simpa using hb
    rw [if_pos (by omega)]
    simp only
    omega
  | false =>
    have : ¬ q ≤ modI n m := fun hc => by rw [show Nat.ble q (modI n m) = true by simpa using hc] at hb; exact absurd hb (by simp)
    rw [if_neg (by omega)]
    simp only
    exact e

@[simp] theorem wrapF_eq (k : IntKind) (n : Int) : wrapF k n = k.wrap n := by
  cases k <;> simp only [wrapF, IntKind.wrap, IntKind.bits, IntKind.signed, Bool.true_and, Bool.false_and, if_false, Bool.false_eq_true]
  case i8 => rw [sigW_eq _ _ (by omega)]; simp
  case i16 => rw [sigW_eq _ _ (by omega)]; simp
  case i32 => rw [sigW_eq _ _ (by omega)]; simp
  case i64 => rw [sigW_eq _ _ (by omega)]; simp
  case u8 => exact unsW_eq _ (by omega) _
  case u16 => exact unsW_eq _ (by omega) _
  case u32 => exact unsW_eq _ (by omega) _
  case u64 => exact unsW_eq _ (by omega) _

/-! strings -/

theorem eqB_iff {a b : List UInt8} : eqB a b = true ↔ a = b := by
  induction a generalizing b with
  | nil => cases b <;> simp [eqB]
  | cons x a ih =>
    cases b with
    | nil => simp [eqB]
    | cons y b =>
      have e : eqB (x :: a) (y :: b) = (match Nat.beq x.toNat y.toNat with | true => eqB a b | false => false) := rfl
      rw [e]
      cases h : Nat.beq x.toNat y.toNat with
      | true =>
        have : x = y := UInt8.toNat.inj (by simpa using h)
        simp [this, ih]
      | false =>
        have : x ≠ y := fun hc => by subst hc; simp at h
        simp [this]

@[simp] theorem eqB_eq (a b : List UInt8) : eqB a b = (a == b) := by
  rw [Bool.eq_iff_iff]; simp [eqB_iff]

@[simp] theorem ltB_eq (a b : List UInt8) : ltB a b = Op.bytesLess a b := by
  induction a generalizing b with
  | nil => cases b <;> rfl
  | cons x a ih =>
    cases b with
    | nil => rfl
    | cons y b =>
      have e : ltB (x :: a) (y :: b) = (match Nat.beq x.toNat y.toNat with | true => ltB a b | false => Nat.blt x.toNat y.toNat) := rfl
      rw [e, ih]
      simp only [Op.bytesLess]
      cases h : Nat.beq x.toNat y.toNat with
      | true =>
        have : x = y := UInt8.toNat.inj (by simpa using h)
        subst this
        simp
      | false =>
        have : x ≠ y := fun hc => by subst hc; simp at h
        rw [Bool.eq_iff_iff]
        simp [this, Nat.blt, Nat.ble_eq, UInt8.lt_iff_toNat_lt]; omega

/-! frames -/

theorem beq0_true {m : Nat} (h : m % 2 = 0) : Nat.beq (m % 2) 0 = true := by rw [h]; rfl
theorem beq0_false {m : Nat} (h : ¬ m % 2 = 0) : Nat.beq (m % 2) 0 = false := by
  have : m % 2 = 1 := by omega
  rw [this]; rfl

theorem getK_zero (k : Nat) (t : FT) : (getK k 0).f t = t.val := by cases k <;> rfl

theorem getK_succ (k m : Nat) (t : FT) : (getK (k + 1) (m + 1)).f t = if m % 2 = 0 then (getK k (m / 2)).f t.left else (getK k (m / 2)).f t.right := by
  have e : getK (k + 1) (m + 1) = (match Nat.beq (m % 2) 0 with
      | true => ⟨fun t => (getK k (m / 2)).f t.left⟩
      | false => ⟨fun t => (getK k (m / 2)).f t.right⟩) := rfl
  rw [e]
  by_cases h : m % 2 = 0
  · rw [beq0_true h, if_pos h]
  · rw [beq0_false h, if_neg h]

theorem setK_zero (k : Nat) (t : FT) (v : AV) : (setK k 0).f t v = .node v t.left t.right := by cases k <;> rfl

theorem setK_succ (k m : Nat) (t : FT) (v : AV) : (setK (k + 1) (m + 1)).f t v =
    if m % 2 = 0 then .node t.val ((setK k (m / 2)).f t.left v) t.right else .node t.val t.left ((setK k (m / 2)).f t.right v) := by
  have e : setK (k + 1) (m + 1) = (match Nat.beq (m % 2) 0 with
      | true => ⟨fun t v => .node t.val ((setK k (m / 2)).f t.left v) t.right⟩
      | false => ⟨fun t v => .node t.val t.left ((setK k (m / 2)).f t.right v)⟩) := rfl
  rw [e]
  by_cases h : m % 2 = 0
  · rw [beq0_true h, if_pos h]
  · rw [beq0_false h, if_neg h]

theorem getK_setK (k : Nat) : ∀ (k' i j : Nat) (t : FT) (v : AV), i ≤ k → j ≤ k' → (getK k' j).f ((setK k i).f t v) = if i = j then v else (getK k' j).f t := by
  induction k with
  | zero =>
    intro k' i j t v hi hj
    obtain rfl : i = 0 := by omega
    rw [setK_zero]
    cases j with
    | zero => rw [getK_zero, if_pos rfl]; rfl
    | succ j =>
      obtain ⟨k', rfl⟩ : ∃ q, k' = q + 1 := ⟨k' - 1, by omega⟩
      rw [getK_succ, getK_succ, if_neg (show ¬ 0 = j + 1 by omega)]
      rfl
  | succ k ih =>
    intro k' i j t v hi hj
    cases i with
    | zero =>
      rw [setK_zero]
      cases j with
      | zero => rw [getK_zero, if_pos rfl]; rfl
      | succ j =>
        obtain ⟨k', rfl⟩ : ∃ q, k' = q + 1 := ⟨k' - 1, by omega⟩
        rw [getK_succ, getK_succ, if_neg (show ¬ 0 = j + 1 by omega)]
        rfl
    | succ i =>
      rw [setK_succ]
      cases j with
      | zero =>
        rw [getK_zero, getK_zero, if_neg (show ¬ i + 1 = 0 by omega)]
        split <;> rfl
      | succ j =>
        obtain ⟨k', rfl⟩ : ∃ q, k' = q + 1 := ⟨k' - 1, by omega⟩
        rw [getK_succ, getK_succ]
        by_cases h1 : i % 2 = 0 <;> by_cases h2 : j % 2 = 0
        · rw [if_pos h1, if_pos h2, if_pos h2]
          show (getK k' (j / 2)).f ((setK k (i / 2)).f t.left v) = _
          rw [ih k' (i / 2) (j / 2) t.left v (by omega) (by omega)]
          by_cases h : i = j
          · subst h; simp
          · rw [if_neg (by omega), if_neg (by omega)]
        · rw [if_pos h1, if_neg h2, if_neg h2, if_neg (show ¬ i + 1 = j + 1 by omega)]; rfl
        · rw [if_neg h1, if_pos h2, if_pos h2, if_neg (show ¬ i + 1 = j + 1 by omega)]; rfl
        · rw [if_neg h1, if_neg h2, if_neg h2]
          show (getK k' (j / 2)).f ((setK k (i / 2)).f t.right v) = _
          rw [ih k' (i / 2) (j / 2) t.right v (by omega) (by omega)]
          by_cases h : i = j
          · subst h; simp
          · rw [if_neg (by omega), if_neg (by omega)]

theorem nth_setNth (t : FT) (v : AV) (i j : Nat) : nth (setNth t v i) j = if i = j then v else nth t j :=
  getK_setK i j i j t v (Nat.le_refl _) (Nat.le_refl _)

theorem nth_nil (i : Nat) : nth .nil i = undef := by
  have : ∀ k i, i ≤ k → (getK k i).f .nil = undef := by
    intro k
    induction k with
    | zero => intro i h; rfl
    | succ k ih =>
      intro i h
      cases i with
      | zero => rfl
      | succ i =>
        rw [getK_succ]
        split <;> exact ih _ (by omega)
  exact this i i (Nat.le_refl _)

/-! the heap -/

section
variable {α : Type}

theorem Tr.get_leaf (n : Nat) : (Tr.leaf : Tr α).get n = none := rfl
theorem Tr.get_zero (l r : Tr α) (v : Option α) : (Tr.node l v r).get 0 = v := rfl
theorem Tr.get_succ (l r : Tr α) (v : Option α) (n : Nat) : (Tr.node l v r).get (n + 1) = if n % 2 = 0 then l.get (n / 2) else r.get (n / 2) := by
  have e : (Tr.node l v r).get (n + 1) = (match Nat.beq (n % 2) 0 with | true => withN (n / 2) l.get | false => withN (n / 2) r.get) := rfl
  rw [e]
  by_cases h : n % 2 = 0
  · rw [beq0_true h, if_pos h]; simp
  · rw [beq0_false h, if_neg h]; simp

def Tr.lt : Tr α → Tr α
  | .leaf => .leaf
  | .node l _ _ => l
def Tr.rt : Tr α → Tr α
  | .leaf => .leaf
  | .node _ _ r => r
def Tr.top : Tr α → Option α
  | .leaf => none
  | .node _ v _ => v

theorem Tr.get_zero' (t : Tr α) : t.get 0 = t.top := by cases t <;> rfl
theorem Tr.get_succ' (t : Tr α) (n : Nat) : t.get (n + 1) = if n % 2 = 0 then t.lt.get (n / 2) else t.rt.get (n / 2) := by
  cases t with
  | leaf => simp [Tr.get_leaf, Tr.lt, Tr.rt]
  | node l v r => exact Tr.get_succ l r v n

theorem Tr.setF_zero (x : Option α) (f : Nat) (t : Tr α) : Tr.setF x (f + 1) t 0 = .node t.lt x t.rt := by cases t <;> rfl
theorem Tr.setF_succ (x : Option α) (f : Nat) (t : Tr α) (n : Nat) : Tr.setF x (f + 1) t (n + 1) =
    if n % 2 = 0 then .node (Tr.setF x f t.lt (n / 2)) t.top t.rt else .node t.lt t.top (Tr.setF x f t.rt (n / 2)) := by
  cases t with
  | leaf =>
    have e : Tr.setF x (f + 1) .leaf (n + 1) = (match Nat.beq (n % 2) 0 with | true => withN (n / 2) fun k => .node (Tr.setF x f .leaf k) none .leaf | false => withN (n / 2) fun k => .node .leaf none (Tr.setF x f .leaf k)) := rfl
    rw [e]
    by_cases h : n % 2 = 0
    · rw [beq0_true h, if_pos h]; simp [Tr.lt, Tr.rt, Tr.top]
    · rw [beq0_false h, if_neg h]; simp [Tr.lt, Tr.rt, Tr.top]
  | node l v r =>
    have e : Tr.setF x (f + 1) (.node l v r) (n + 1) = (match Nat.beq (n % 2) 0 with | true => withN (n / 2) fun k => .node (Tr.setF x f l k) v r | false => withN (n / 2) fun k => .node l v (Tr.setF x f r k)) := rfl
    rw [e]
    by_cases h : n % 2 = 0
    · rw [beq0_true h, if_pos h]; simp [Tr.lt, Tr.rt, Tr.top]
    · rw [beq0_false h, if_neg h]; simp [Tr.lt, Tr.rt, Tr.top]

theorem Tr.get_setF (x : Option α) (f : Nat) : ∀ (t : Tr α) (i j : Nat), i < f → (Tr.setF x f t i).get j = if i = j then x else t.get j := by
  induction f with
  | zero => intro t i j h; omega
  | succ f ih =>
    intro t i j h
    cases i with
    | zero =>
      rw [Tr.setF_zero]
      cases j with
      | zero => rfl
      | succ j => rw [Tr.get_succ, Tr.get_succ' t, if_neg (show ¬ 0 = j + 1 by omega)]
    | succ i =>
      rw [Tr.setF_succ]
      cases j with
      | zero =>
        rw [Tr.get_zero' t, if_neg (show ¬ i + 1 = 0 by omega)]
        split <;> rfl
      | succ j =>
        rw [Tr.get_succ' t]
        by_cases h1 : i % 2 = 0 <;> by_cases h2 : j % 2 = 0
        · rw [if_pos h1, if_pos h2, Tr.get_succ, if_pos h2, ih _ (i / 2) (j / 2) (by omega)]
          by_cases h : i = j
          · subst h; simp
          · rw [if_neg (by omega), if_neg (by omega)]
        · rw [if_pos h1, if_neg h2, Tr.get_succ, if_neg h2, if_neg (show ¬ i + 1 = j + 1 by omega)]
        · rw [if_neg h1, if_pos h2, Tr.get_succ, if_pos h2, if_neg (show ¬ i + 1 = j + 1 by omega)]
        · rw [if_neg h1, if_neg h2, Tr.get_succ, if_neg h2, ih _ (i / 2) (j / 2) (by omega)]
          by_cases h : i = j
          · subst h; simp
          · rw [if_neg (by omega), if_neg (by omega)]

theorem Tr.get_set (t : Tr α) (i j : Nat) (x : Option α) : (t.set i x).get j = if i = j then x else t.get j :=
  Tr.get_setF x (i + 1) t i j (by omega)
end

theorem AH.get_put (h : AH) (b c : Nat) (x : Blk) : (h.put b x).get c = if b = c then some x else h.get c := Tr.get_set _ _ _ _
theorem AH.get_del (h : AH) (b c : Nat) : (h.del b).get c = if b = c then none else h.get c := Tr.get_set _ _ _ _
theorem AH.get_new (h : AH) (c : Nat) (x : Blk) : (h.new x).get c = if h.next = c then some x else h.get c := by
  simp only [AH.new, withN_eq, AH.get]; exact Tr.get_set _ _ _ _
@[simp] theorem AH.next_put (h : AH) (b : Nat) (x : Blk) : (h.put b x).next = h.next := rfl
@[simp] theorem AH.next_del (h : AH) (b : Nat) : (h.del b).next = h.next := rfl
@[simp] theorem AH.next_new (h : AH) (x : Blk) : (h.new x).next = h.next + 1 := by simp [AH.new]

end Go.Ab
