/-
  The abstract machine's instructions that leave the heap as it is: each tells what the model's operation tells.
-/
import Derived.Test.YtpbcecibooaebaaGreatDoorAbWrite
import Derived.ChangeKeysEq
namespace Go.Ab
open Go

section
variable {E : Cx} {m : Mp} {P : Program}

/-- the package-level variables lie where they lie -/
def Globs (P : Program) (m : Mp) : Prop := ∀ g, g < P.globals.size → ∃ cb, m g = some cb ∧ cb.blk = g

theorem Globs.mono {m m' : Mp} (h : Globs P m) (hm : Ext m m') : Globs P m' := fun g hg => let ⟨cb, h1, h2⟩ := h g hg; ⟨cb, hm _ _ h1, h2⟩

theorem ofLeaf_sound {v : Value} {a : AV} (h : ofLeaf v = some a) : VR E m a v ∧ leafV v = true := by
  unfold ofLeaf at h
  split at h <;> first | (simp at h; done) | skip
  · cases h; exact ⟨.bool _, rfl⟩
  · cases h; exact ⟨.int _ _, rfl⟩
  · cases h; exact ⟨.str _, rfl⟩
  · cases h; exact ⟨.nilp, rfl⟩
  · cases h; exact ⟨.nils, rfl⟩
  · cases h; exact ⟨.nilf, rfl⟩
  · split at h <;> first | (simp at h; done) | skip
    cases h; exact ⟨.nilm, rfl⟩
  · cases h; exact ⟨.nili, rfl⟩

theorem ofLeaves_sound : ∀ {vs : List Value} {as : List AV}, ofLeaves vs = some as → LR E m as vs ∧ ∀ x ∈ vs, leafV x = true := by
  intro vs
  induction vs with
  | nil => intro as h; simp [ofLeaves] at h; subst h; exact ⟨.nil, by simp⟩
  | cons v vs ih =>
    intro as h
    unfold ofLeaves at h
    split at h
    · rename_i a l h1 h2
      cases h
      obtain ⟨g1, g2⟩ := ih h2
      obtain ⟨g3, g4⟩ := ofLeaf_sound (E := E) (m := m) h1
      refine ⟨.cons g3 g1, fun x hx => ?_⟩
      rcases List.mem_cons.1 hx with rfl | hx
      · exact g4
      · exact g2 x hx
    · simp at h

theorem ofV_sound {v : Value} {a : AV} (h : ofV v = some a) : VR E m a v := by
  unfold ofV at h
  split at h
  · rename_i cs
    split at h
    · rename_i l hl
      cases h
      obtain ⟨g1, g2⟩ := ofLeaves_sound (E := E) (m := m) hl
      have := g1.agg g2
      simpa using this
    · simp at h
  · exact (ofLeaf_sound h).1

theorem cOpd_sound (hg : Globs P m) {x : Operand} {y : Opd} (h : cOpd P x = some y) {tm : FT} {a : Act} (hf : FR E m tm a.tmps) : VR E m (opd y tm) (a.eval x) := by
  unfold cOpd at h
  split at h
  · cases h; exact hf _
  · split at h
    · rename_i v hv; cases h; exact ofV_sound hv
    · simp at h
  · rename_i g
    split at h
    · rename_i hlt
      cases h
      obtain ⟨cb, h1, h2⟩ := hg g hlt
      have := VR.ptr (E := E) (o := 0) h1
      rw [h2] at this
      exact this
    · simp at h
  · cases h
    exact .fn (by simp) (fun i a v h => by simp at h) (by simp) (fun i a v h => by simp at h)

theorem mapO_some {α β : Type} {f : α → Option β} : ∀ {l : List α} {r : List β}, mapO f l = some r → l.length = r.length ∧ ∀ (i : Nat) a b, l[i]? = some a → r[i]? = some b → f a = some b := by
  intro l
  induction l with
  | nil => intro r h; simp [mapO] at h; subst h; exact ⟨rfl, fun i a b h => by simp at h⟩
  | cons a l ih =>
    intro r h
    unfold mapO at h
    split at h
    · rename_i b bs h1 h2
      cases h
      obtain ⟨g1, g2⟩ := ih h2
      refine ⟨by simp [g1], fun i c d hc hd => ?_⟩
      cases i with
      | zero => simp at hc hd; subst hc; subst hd; exact h1
      | succ i => exact g2 i c d (by simpa using hc) (by simpa using hd)
    · simp at h

theorem opds_eq (l : List Opd) (tm : FT) : opds l tm = l.map fun x => opd x tm := by
  induction l with
  | nil => rfl
  | cons x l ih => show opd x tm :: opds l tm = _; rw [ih]; rfl

theorem cOpds_sound (hg : Globs P m) {xs : List Operand} {ys : List Opd} (h : cOpds P xs = some ys) {tm : FT} {a : Act} (hf : FR E m tm a.tmps) :
    LR E m (opds ys tm) (xs.map a.eval) := by
  obtain ⟨h1, h2⟩ := mapO_some h
  rw [opds_eq]
  refine ⟨by simp [h1], fun i x v hx hv => ?_⟩
  rw [List.getElem?_map] at hx hv
  cases hy : ys[i]? with
  | none => rw [hy] at hx; simp at hx
  | some y =>
    cases hz : xs[i]? with
    | none => rw [hz] at hv; simp at hv
    | some z =>
      rw [hy] at hx; rw [hz] at hv
      simp at hx hv
      subst hx; subst hv
      exact cOpd_sound hg (h2 i z y hz hy) hf

/-- an operation that tells a value -/
theorem exec_v {s : Sem Value} {x : Value} {w w' : World} (h : s.run P w = .ok x w') : (do pure (.value (← s)) : Sem Next).run P w = .ok (.value x) w' := by
  rw [bind_ok h]; rfl

theorem exec_u {s : Sem Unit} {w w' : World} (h : s.run P w = .ok () w') : (do s; pure .skip : Sem Next).run P w = .ok .skip w' := by
  rw [bind_ok h]; rfl

/-! integers -/

theorem toNat_ofInt_eq (k : IntKind) (a : Int) : (BitVec.ofInt k.bits a).toNat = modI a (modOf k) := by
  have h0 : 0 < modOf k := by cases k <;> decide
  have h := modI_eq a (modOf k) h0
  have h2 : (modOf k : Int) = ((2 ^ k.bits : Nat) : Int) := by rw [modOf_eq]; simp
  rw [BitVec.toNat_ofInt, ← h2, ← h]
  simp

theorem emod_toNat' (k : IntKind) (a : Int) : (a % (modOf k : Int)).toNat = modI a (modOf k) := by
  have h0 : 0 < modOf k := by cases k <;> decide
  rw [← modI_eq a (modOf k) h0]; simp

theorem emod_toNat (k : IntKind) (a : Int) : (a % 2 ^ k.bits).toNat = modI a (modOf k) := by rw [← modOf_eq, emod_toNat']

theorem modI_lt (a : Int) (k : IntKind) : modI a (modOf k) < modOf k := by
  have h0 : 0 < modOf k := by cases k <;> decide
  have h := modI_eq a (modOf k) h0
  have := Int.emod_lt_of_pos a (show (0 : Int) < modOf k by omega)
  omega

theorem modOf_nat (k : IntKind) : modOf k = 2 ^ k.bits := by cases k <;> rfl

theorem shiftBy_eq (k : IntKind) (b : Nat) : shiftBy k b = min b k.bits := by
  unfold shiftBy
  rw [bitsOf_eq]
  cases h : Nat.ble k.bits b with
  | true => have : k.bits ≤ b := by simpa using h
            simp only; omega
  | false => have : ¬ k.bits ≤ b := fun hc => by rw [show Nat.ble k.bits b = true by simpa using hc] at h; simp at h
             simp only; omega

theorem divN_eq (a : Int) (n : Nat) : divN a (2 ^ n) = a.fdiv (2 ^ n) := by
  have e : ((2 : Int) ^ n) = ((2 ^ n : Nat) : Int) := by simp
  rw [e]
  have hp : 0 < 2 ^ n := Nat.pos_of_ne_zero (by simp)
  cases a with
  | ofNat a =>
    show ((a / 2 ^ n : Nat) : Int) = _
    rw [Int.fdiv_eq_ediv_of_nonneg _ (by omega)]
    simp
  | negSucc a =>
    rw [Int.fdiv_eq_ediv_of_nonneg _ (by omega)]
    obtain ⟨q, hq⟩ : ∃ q, 2 ^ n = q + 1 := ⟨2 ^ n - 1, by omega⟩
    rw [hq]
    rfl

theorem ifK_some {k k' : IntKind} {v : Option AV} {r : AV} (h : ifK k k' v = some r) : k = k' ∧ v = some r := by
  unfold ifK at h
  split at h
  · rename_i hk; exact ⟨sameK_iff.1 hk, h⟩
  · simp at h

theorem run_binOp_int {op : BinOp} {t : TypeId} {k k' : IntKind} {a b : Int} {v : AV} (h : intBin op k a k' b = some v) (w : World) :
    ∃ x, (binOp op t (.int k a) (.int k' b)).run P w = .ok x w ∧ VR E m v x := by
  cases op
  case shl =>
    simp only [intBin, shlI] at h
    split at h
    · rename_i b
      cases h
      refine ⟨_, ?_, .int _ _⟩
      simp only [binOp, Op.shift]
      rw [if_neg (by simp)]
      simp only [wrapF_eq, shiftBy_eq, run_pure]
      simp
    · simp at h
  case shr =>
    simp only [intBin, shrI] at h
    split at h
    · rename_i b
      cases h
      refine ⟨_, ?_, .int _ _⟩
      simp only [binOp, Op.shift]
      rw [if_neg (by simp)]
      simp only [shiftBy_eq, divN_eq, run_pure]
      simp
    · simp at h
  all_goals
    simp only [intBin, ifK] at h
    have hk : sameK k k' = true := by
      cases hq : sameK k k' with
      | true => rfl
      | false => rw [hq] at h; simp at h
    obtain rfl := sameK_iff.1 hk
    simp only [hk] at h
  case quo =>
    simp only [quoI] at h
    split at h
    · simp at h
    · rename_i hb
      cases h
      refine ⟨_, ?_, .int _ _⟩
      have hb : b ≠ 0 := by simpa using hb
      simp [binOp, Op.intDiv, hb]
  case rem =>
    simp only [remI] at h
    split at h
    · simp at h
    · rename_i hb
      cases h
      refine ⟨_, ?_, .int _ _⟩
      have hb : b ≠ 0 := by simpa using hb
      simp [binOp, Op.intDiv, hb]
  case and =>
    cases h
    refine ⟨_, ?_, .int _ _⟩
    simp [binOp, Op.intBits, emod_toNat, BitVec.toNat_and]
  case or =>
    cases h
    refine ⟨_, ?_, .int _ _⟩
    simp [binOp, Op.intBits, emod_toNat, BitVec.toNat_or]
  case xor =>
    cases h
    refine ⟨_, ?_, .int _ _⟩
    simp [binOp, Op.intBits, emod_toNat, BitVec.toNat_xor]
  case andNot =>
    cases h
    refine ⟨_, ?_, .int _ _⟩
    simp [binOp, Op.intBits, emod_toNat', BitVec.toNat_and, BitVec.toNat_not, ← modOf_nat]
  all_goals
    cases h
    first
      | (refine ⟨_, ?_, .int _ _⟩; simp [binOp, Op.intArith]; done)
      | (refine ⟨_, ?_, .bool _⟩; simp [binOp, Op.intCmp]; done)
      | (refine ⟨_, ?_, .bool _⟩; simp [binOp, Op.intCmp]; rfl)

theorem eqGuard_other {op : BinOp} {t : TypeId} {x y : Operand} {a b : Value} (w : World)
    (h1 : ¬ (a = .nilIface ∧ b = .nilIface)) (h2 : ∀ as bs, ¬ (a = .agg as ∧ b = .agg bs)) : (eqGuard op t x y a b).run P w = .ok () w := by
  unfold eqGuard
  cases op <;> first
    | rfl
    | (cases a <;> cases b <;> first | rfl | exact absurd ⟨rfl, rfl⟩ h1 | exact absurd ⟨rfl, rfl⟩ (h2 _ _))

end
end Go.Ab
