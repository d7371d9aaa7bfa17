/-
  The abstract machine's '==' and its texts: each tells what the model's tells.
-/
import Derived.Test.YtpbcecibooaebaaGreatDoorAbOps
import Derived.Laws.StructEq
namespace Go.Ab
open Go

section
variable {E : Cx} {m : Mp} {P : Program}

theorem toList_mk (l : List UInt8) : (⟨⟨l⟩⟩ : ByteArray).toList = l := by rw [ByteArray.toList_eq]

theorem append_mk (a b : List UInt8) : ((⟨⟨a⟩⟩ : ByteArray) ++ ⟨⟨b⟩⟩) = ⟨⟨a ++ b⟩⟩ := by
  have h : ((⟨⟨a⟩⟩ : ByteArray) ++ ⟨⟨b⟩⟩).data = (⟨a ++ b⟩ : Array UInt8) := by rw [ByteArray.data_append]; simp
  cases hc : ((⟨⟨a⟩⟩ : ByteArray) ++ ⟨⟨b⟩⟩) with
  | mk d => rw [hc] at h; simp at h; rw [h]

theorem size_mk (l : List UInt8) : (⟨⟨l⟩⟩ : ByteArray).size = l.length := rfl

theorem run_binOp_str {op : BinOp} {t : TypeId} {a b : List UInt8} {v : AV} (h : strBin op a b = some v) (w : World) :
    ∃ x, (binOp op t (.string ⟨⟨a⟩⟩) (.string ⟨⟨b⟩⟩)).run P w = .ok x w ∧ VR E m v x := by
  cases op <;> simp only [strBin, reduceCtorEq] at h
  case add =>
    simp only [ltN_eq, lenL_eq] at h
    split at h
    · rename_i hl
      cases h
      refine ⟨_, ?_, .str _⟩
      have hl : a.length + b.length < 4611686018427387904 := by simpa using hl
      have : ¬ ((((⟨⟨a⟩⟩ : ByteArray).size + (⟨⟨b⟩⟩ : ByteArray).size : Nat) : Int) > IntKind.i64.max) := by
        rw [size_mk, size_mk]; simp [IntKind.max, IntKind.signed, IntKind.bits]; omega
      simp only [binOp, Op.stringOp]
      rw [if_neg this, append_mk]; rfl
    · simp at h
  all_goals
    cases h
    refine ⟨_, ?_, .bool _⟩
    simp [binOp, Op.stringOp]

/-- a variable's value out of its cells -/
def valOf (agg : Bool) (vs : List Value) : Value := if agg then .agg vs.toArray else vs.headD Go.undef

theorem eqs_append {ts us : List EqT} : ∀ {as bs cs ds : List AV}, as.length = ts.length → cs.length = ts.length →
    eqs (ts ++ us) (as ++ bs) (cs ++ ds) = match eqs ts as cs with
      | some true => eqs us bs ds
      | r => r := by
  induction ts with
  | nil =>
    intro as bs cs ds h1 h2
    rw [List.eq_nil_of_length_eq_zero h1, List.eq_nil_of_length_eq_zero h2]; rfl
  | cons t ts ih =>
    intro as bs cs ds h1 h2
    cases as with
    | nil => simp at h1
    | cons a as =>
      cases cs with
      | nil => simp at h2
      | cons c cs =>
        have e1 : eqs (t :: ts ++ us) (a :: as ++ bs) (c :: cs ++ ds) = (match leafEq t a c with
          | some true => eqs (ts ++ us) (as ++ bs) (cs ++ ds)
          | r => r) := rfl
        have e2 : eqs (t :: ts) (a :: as) (c :: cs) = (match leafEq t a c with
          | some true => eqs ts as cs
          | r => r) := rfl
        rw [e1, e2, ih (by simpa using h1) (by simpa using h2)]
        cases leafEq t a c with
        | none => rfl
        | some b => cases b <;> rfl

/-- the run of '==' of a type, whose cells are compared by ts -/
def EqOk (E : Cx) (m : Mp) (P : Program) (D : Nat) (t : TypeId) (ts : List EqT) : Prop :=
  ∀ (as bs : List AV) (xs ys : List Value) (r : Bool) (w : World), as.length = ts.length → bs.length = ts.length → LR E m as xs → LR E m bs ys →
    eqs ts as bs = some r → ∃ agg, aggT P t = some agg ∧ (agg = false → ts.length = 1) ∧ (Op.equalIn D t (valOf agg xs) (valOf agg ys)).run P w = .ok r w

theorem leafEq_sound {t : EqT} {a b : AV} {r : Bool} (h : leafEq t a b = some r) {x y : Value} (hx : VR E m a x) (hy : VR E m b y) {T : TypeId} (hT : leafT P T = some t)
    (d : Nat) (w : World) : (Op.equalIn (d + 1) T x y).run P w = .ok r w := by
  unfold leafT at hT
  split at hT <;> first | (simp at hT; done) | (cases hT)
  · rename_i hu
    simp only [leafEq] at h
    split at h
    · rename_i a b
      cases hx; cases hy
      cases h
      rw [run_equalIn_bool' w d T a b hu]
      cases a <;> cases b <;> rfl
    · simp at h
  · rename_i k hu
    simp only [leafEq] at h
    split at h
    · rename_i k a k' b
      split at h
      · rename_i hk
        obtain rfl := sameK_iff.1 hk
        cases hx; cases hy
        cases h
        rw [run_equalIn_int w d T _ _ a b hu]
        simp
      · simp at h
    · simp at h
  · rename_i hu
    simp only [leafEq] at h
    split at h
    · cases hx; cases hy
      cases h
      rw [run_equalIn_string w d T _ _ hu, toList_mk, toList_mk]
      simp
    · simp at h

theorem run_part {t : TypeId} {n : Nat} {agg : Bool} (ha : aggT P t = some agg) (hs : sizeT P t = some n) (h1 : agg = false → n = 1) {cs : List Value} {off : Nat} (hl : off + n ≤ cs.length) (w : World) :
    (part t cs.toArray off).run P w = .ok (valOf agg ((cs.drop off).take n)) w := by
  unfold part
  rw [bind_ok (run_isAgg ha w)]
  cases agg with
  | true =>
    simp only [if_true]
    rw [bind_ok (run_sizeOf hs w)]
    simp only [valOf, if_true, run_pure, List.extract_toArray, List.extract_eq_take_drop]
    congr 4; omega
  | false =>
    have h1 := h1 rfl
    subst h1
    simp only [Bool.false_eq_true, if_false]
    have : (cs.toArray)[off]? = some (cs[off]'(by omega)) := by simp
    rw [this]
    have hlt : off < cs.length := by omega
    simp only [run_pure, valOf, Bool.false_eq_true, if_false]
    rw [List.headD_eq_head?_getD, List.head?_take, if_neg (by omega), List.head?_drop, List.getElem?_eq_getElem hlt]
    rfl

theorem eqFields_sound {g : TypeId → Option (List EqT)} {D : Nat} (hg : ∀ t ts, g t = some ts → EqOk E m P D t ts) :
    ∀ (fs : List Field) (off : Nat) (ts : List EqT), flatFs P g off fs = some ts →
    ∀ (as bs : List AV) (xs ys : List Value) (r : Bool) (w : World), as.length = off + ts.length → bs.length = off + ts.length → LR E m as xs → LR E m bs ys →
    eqs ts (as.drop off) (bs.drop off) = some r → (Op.eqFields D xs.toArray ys.toArray fs).run P w = .ok r w := by
  intro fs
  induction fs with
  | nil =>
    intro off ts hf as bs xs ys r w _ _ _ _ he
    simp [flatFs] at hf
    subst hf
    cases (show some true = some r from he)
    rfl
  | cons f fs ih =>
    intro off ts hf as bs xs ys r w hla hlb hx hy he
    unfold flatFs at hf
    split at hf
    · rename_i hoff
      obtain ⟨hoff, hname⟩ := hoff
      split at hf
      · rename_i q hq
        split at hf
        · rename_i hsz
          split at hf
          · rename_i rest hrest
            cases hf
            simp only [List.length_append] at hla hlb
            have ea : as.drop off = (as.drop off).take q.length ++ as.drop (off + q.length) := by
              rw [← List.drop_drop, List.take_append_drop]
            have eb : bs.drop off = (bs.drop off).take q.length ++ bs.drop (off + q.length) := by
              rw [← List.drop_drop, List.take_append_drop]
            rw [ea, eb, eqs_append (by simp; omega) (by simp; omega)] at he
            have key := hg f.type q hq ((as.drop off).take q.length) ((bs.drop off).take q.length) ((xs.drop off).take q.length) ((ys.drop off).take q.length)
            unfold Op.eqFields
            rw [if_pos hname]
            cases h1 : eqs q ((as.drop off).take q.length) ((bs.drop off).take q.length) with
            | none => rw [h1] at he; simp at he
            | some b =>
              obtain ⟨agg, k1, k2, k3⟩ := key b w (by simp; omega) (by simp; omega) ((hx.drop off).take _) ((hy.drop off).take _) h1
              rw [bind_ok (run_part k1 hsz k2 (off := f.offset) (by rw [← hx.1]; omega) w), bind_ok (run_part k1 hsz k2 (off := f.offset) (by rw [← hy.1]; omega) w), ← hoff, bind_ok k3]
              rw [h1] at he
              cases b with
              | true =>
                simp only [Bool.not_true, Bool.false_eq_true, if_false]
                exact ih (off + q.length) rest hrest as bs xs ys r w (by omega) (by omega) hx hy he
              | false =>
                simp only [Bool.not_false, if_true]
                cases (show some false = some r from he)
                rfl
          · simp at hf
        · simp at hf
      · simp at hf
    · simp at hf

theorem eqItems_sound {e : TypeId} {q : List EqT} {D : Nat} (hq : EqOk E m P D e q) (hs : sizeT P e = some q.length) :
    ∀ (n i : Nat) (as bs : List AV) (xs ys : List Value) (r : Bool) (w : World), as.length = (i + n) * q.length → bs.length = (i + n) * q.length → LR E m as xs → LR E m bs ys →
    eqs (List.replicate n q).flatten (as.drop (i * q.length)) (bs.drop (i * q.length)) = some r →
    (Op.eqItems D e q.length xs.toArray ys.toArray (List.range' i n)).run P w = .ok r w := by
  intro n
  induction n with
  | zero =>
    intro i as bs xs ys r w _ _ _ _ he
    cases (show some true = some r from he)
    rfl
  | succ n ih =>
    intro i as bs xs ys r w hla hlb hx hy he
    have e1 : (i + (n + 1)) * q.length = i * q.length + q.length + n * q.length := by rw [Nat.add_mul, Nat.succ_mul]; omega
    have e2 : (i + 1) * q.length = i * q.length + q.length := Nat.succ_mul _ _
    have ea : as.drop (i * q.length) = (as.drop (i * q.length)).take q.length ++ as.drop ((i + 1) * q.length) := by
      rw [e2, ← List.drop_drop, List.take_append_drop]
    have eb : bs.drop (i * q.length) = (bs.drop (i * q.length)).take q.length ++ bs.drop ((i + 1) * q.length) := by
      rw [e2, ← List.drop_drop, List.take_append_drop]
    rw [List.replicate_succ, List.flatten_cons, ea, eb, eqs_append (by simp; omega) (by simp; omega)] at he
    rw [List.range'_succ]
    unfold Op.eqItems
    cases h1 : eqs q ((as.drop (i * q.length)).take q.length) ((bs.drop (i * q.length)).take q.length) with
    | none => rw [h1] at he; simp at he
    | some b =>
      obtain ⟨agg, k1, k2, k3⟩ := hq _ _ ((xs.drop (i * q.length)).take q.length) ((ys.drop (i * q.length)).take q.length) b w (by simp; omega) (by simp; omega) ((hx.drop _).take _) ((hy.drop _).take _) h1
      rw [bind_ok (run_part k1 hs k2 (by rw [← hx.1]; omega) w), bind_ok (run_part k1 hs k2 (by rw [← hy.1]; omega) w), bind_ok k3]
      rw [h1] at he
      cases b with
      | true =>
        simp only [Bool.not_true, Bool.false_eq_true, if_false]
        refine ih (i + 1) as bs xs ys r w ?_ ?_ hx hy he
        · rw [hla]; congr 1; omega
        · rw [hlb]; congr 1; omega
      | false =>
        simp only [Bool.not_false, if_true]
        cases (show some false = some r from he)
        rfl

theorem flatT_sound : ∀ (d : Nat) (t : TypeId) (ts : List EqT), flatT P d t = some ts → ∀ D, d ≤ D → EqOk E m P D t ts := by
  intro d
  induction d with
  | zero => intro t ts h; simp [flatT] at h
  | succ d ih =>
    intro t ts h D hD
    obtain ⟨D, rfl⟩ : ∃ q, D = q + 1 := ⟨D - 1, by omega⟩
    have leaf : ∀ {q : EqT}, leafT P t = some q → ts = [q] → aggT P t = some false → EqOk E m P (D + 1) t ts := by
      rintro q hq rfl ha as bs xs ys r w h1 h2 hx hy he
      refine ⟨false, ha, fun _ => rfl, ?_⟩
      obtain ⟨a, rfl⟩ := List.length_eq_one_iff.1 h1
      obtain ⟨b, rfl⟩ := List.length_eq_one_iff.1 h2
      obtain ⟨x, xs, rfl, hx, hx'⟩ := hx.cons_inv
      obtain ⟨y, ys, rfl, hy, hy'⟩ := hy.cons_inv
      have e : eqs [q] [a] [b] = (match leafEq q a b with | some true => some true | r => r) := rfl
      rw [e] at he
      have : leafEq q a b = some r := by
        cases hc : leafEq q a b with
        | none => rw [hc] at he; simp at he
        | some z => rw [hc] at he; cases z <;> exact he
      exact leafEq_sound this hx hy hq D w
    unfold flatT at h
    split at h
    · rename_i hu; cases h
      exact leaf (by simp [leafT, hu]) rfl (by simp [aggT, hu])
    · rename_i hu; cases h
      exact leaf (by simp [leafT, hu]) rfl (by simp [aggT, hu])
    · rename_i hu; cases h
      exact leaf (by simp [leafT, hu]) rfl (by simp [aggT, hu])
    · rename_i fs hu
      split at h
      · simp at h
      · rename_i hst
        have hst : P.stoodInHeld t = false := by simpa using hst
        intro as bs xs ys r w h1 h2 hx hy he
        refine ⟨true, by simp [aggT, hu], by simp, ?_⟩
        have hf : P.fieldsOf t = fs := by simp [Program.fieldsOf, hu]
        simp only [valOf, if_true]
        rw [run_equalIn_struct w D t _ _ (by rw [hf]; exact hu) hst, hf]
        exact eqFields_sound (fun t ts ht => ih t ts ht D (by omega)) fs.toList 0 ts h as bs xs ys r w (by omega) (by omega) hx hy (by simpa using he)
    · rename_i n e hu
      split at h
      · rename_i q hq
        split at h
        · rename_i hs
          cases h
          intro as bs xs ys r w h1 h2 hx hy he
          refine ⟨true, by simp [aggT, hu], by simp, ?_⟩
          obtain ⟨i, hi, hsz⟩ := sizeT_some hs
          have hc : P.cellsOf e = q.length := by simp [Program.cellsOf, hi, hsz]
          simp only [valOf, if_true]
          rw [run_equalIn_array (w := w) D _ _ hu hi, hc, List.range_eq_range']
          have hlen : (List.replicate n q).flatten.length = n * q.length := by simp
          exact eqItems_sound (ih e q hq D (by omega)) hs n 0 as bs xs ys r w (by rw [h1, hlen]; simp) (by rw [h2, hlen]; simp) hx hy (by simpa using he)
        · simp at h
      · simp at h
    · simp at h
end
end Go.Ab
