/-
  Maps with texts as keys: what is read.
-/
import Derived.Test.YtpbcecibooaebaaGreatDoorAbPure4
namespace Go.Ab
open Go

section
variable {E : Cx} {m : Mp} {P : Program}

theorem findM_cons (k : List UInt8) (e : List UInt8 × AV) (es : List (List UInt8 × AV)) : findM k (e :: es) = if k = e.1 then some e.2 else findM k es := by
  have h : findM k (e :: es) = match eqB k e.1 with
    | true => some e.2
    | false => findM k es := rfl
  rw [h, eqB_eq]
  by_cases hk : k = e.1
  · rw [if_pos hk, beq_iff_eq.2 hk]
  · rw [if_neg hk, beq_eq_false_iff_ne.2 hk]

theorem putM_cons (k : List UInt8) (v : AV) (e : List UInt8 × AV) (es : List (List UInt8 × AV)) : putM k v (e :: es) = if k = e.1 then (k, v) :: es else e :: putM k v es := by
  have h : putM k v (e :: es) = match eqB k e.1 with
    | true => (k, v) :: es
    | false => e :: putM k v es := rfl
  rw [h, eqB_eq]
  by_cases hk : k = e.1
  · rw [if_pos hk, beq_iff_eq.2 hk]
  · rw [if_neg hk, beq_eq_false_iff_ne.2 hk]

theorem same_key (k l : List UInt8) : Instr.sameNow .string (.string ⟨⟨k⟩⟩) (.string ⟨⟨l⟩⟩) = some (decide (k = l)) := by
  simp only [Instr.sameNow, Option.some.injEq]
  rw [beq_toListBytes, toList_mk, toList_mk]
  by_cases h : k = l
  · rw [beq_iff_eq.2 h, decide_eq_true h]
  · rw [beq_eq_false_iff_ne.2 h, decide_eq_false h]

theorem find_none {k : List UInt8} : ∀ {es : List (List UInt8 × AV)} {xs : List MapEntry} {i : Nat}, findM k es = none → MapR E m es xs → Instr.findNow .string (.string ⟨⟨k⟩⟩) xs i = some none ∧
    ∀ (x : AV) (xv : Value) (c : Nat), VR E m x xv → leafV xv = true → MapR E m (putM k x es) (xs ++ [⟨.string ⟨⟨k⟩⟩, xv, c⟩])
  | [], [], i, _, _ => ⟨rfl, fun x xv c h1 h2 => ⟨⟨rfl, h1, h2⟩, trivial⟩⟩
  | e :: es, x :: xs, i, hf, h => by
    rw [findM_cons] at hf
    split at hf
    · simp at hf
    · rename_i hk
      obtain ⟨g1, g2⟩ := find_none (i := i + 1) hf h.2
      refine ⟨?_, fun y yv c h1 h2 => ?_⟩
      · simp only [Instr.findNow, h.1.1, same_key, decide_eq_false hk]
        exact g1
      · rw [putM_cons, if_neg hk]
        exact ⟨h.1, g2 y yv c h1 h2⟩
  | [], _ :: _, _, _, h => h.elim
  | _ :: _, [], _, _, h => h.elim

theorem find_some {k : List UInt8} {v : AV} : ∀ {es : List (List UInt8 × AV)} {xs : List MapEntry} {i : Nat}, findM k es = some v → MapR E m es xs →
    ∃ j e, Instr.findNow .string (.string ⟨⟨k⟩⟩) xs i = some (some (i + j, e.val)) ∧ xs[j]? = some e ∧ e.key = .string ⟨⟨k⟩⟩ ∧ VR E m v e.val ∧ leafV e.val = true ∧
      ∀ (x : AV) (xv : Value), VR E m x xv → leafV xv = true → MapR E m (putM k x es) (xs.modify j fun e => { e with key := .string ⟨⟨k⟩⟩, val := xv })
  | [], _, _, hf, _ => by cases hf
  | e :: es, x :: xs, i, hf, h => by
    rw [findM_cons] at hf
    split at hf
    · rename_i hk
      cases hf
      refine ⟨0, x, ?_, rfl, by rw [h.1.1, hk], h.1.2.1, h.1.2.2, fun y yv h1 h2 => ?_⟩
      · simp only [Instr.findNow, h.1.1, same_key, decide_eq_true hk]
        rfl
      · rw [putM_cons, if_pos hk]
        exact ⟨⟨rfl, h1, h2⟩, h.2⟩
    · rename_i hk
      obtain ⟨j, e', g1, g2, g3, g4, g5, g6⟩ := find_some (i := i + 1) hf h.2
      refine ⟨j + 1, e', ?_, g2, g3, g4, g5, fun y yv h1 h2 => ?_⟩
      · simp only [Instr.findNow, h.1.1, same_key, decide_eq_false hk]
        rw [g1, show i + 1 + j = i + (j + 1) by omega]
      · rw [putM_cons, if_neg hk]
        exact ⟨h.1, g6 y yv h1 h2⟩
  | _ :: _, [], _, _, h => h.elim

theorem run_getMap {w : World} {b : Nat} {xs : Array MapEntry} {c : Nat} (h : w.heap[b]? = some (.map xs c)) : (getObj b).run P w = .ok (.map xs c) w := by
  simp [getObj, Sem.run, h]

theorem run_checkKey {t : TypeId} (ht : P.underlying t = some .string) (e : Bool) (v : Value) (w : World) : (Instr.checkKey e 10000 t v).run P w = .ok () w := by
  unfold Instr.checkKey
  rw [bind_ok (run_underlying ht w)]
  rfl

theorem run_findKey {t : TypeId} (ht : P.underlying t = some .string) {k : Value} {xs : List MapEntry} {r : Option (Nat × Value)} (h : Instr.findNow .string k xs 0 = some r) (w : World) :
    (Instr.findKey t k xs).run P w = .ok r w := by
  unfold Instr.findKey
  rw [bind_ok (run_underlying ht w)]
  simp only [h]
  rfl

theorem lookup_sound {h : AH} {w : World} (r : Rel E m h w.heap) {t key elem : TypeId} (hu : P.underlying t = some (.map key elem)) (hk : P.underlying key = some .string) {z : AV} {zv : Value}
    (hz : (zeroValue elem).run P w = .ok zv w) (hzr : VR E m z zv) {ok : Bool} {x i v : AV} {X I : Value} (hx : VR E m x X) (hi : VR E m i I) (hv : alookup ok z x i h = some v) :
    ∃ y, (Instr.lookup t X I ok).run P w = .ok y w ∧ VR E m v y := by
  unfold alookup at hv
  split at hv <;> first | (simp at hv; done) | skip
  rename_i b k
  split at hv <;> first | (simp at hv; done) | skip
  rename_i es hb
  cases hx with
  | mapv hm =>
  rename_i cb
  cases hi
  obtain ⟨cb', h1, xs, c, h2, h3⟩ := r.dom b _ hb
  rw [hm] at h1; cases h1
  have pair : ∀ {a : AV} {y : Value} {q : Bool}, VR E m a y → VR E m (.tup [a, .bool q]) (.tuple #[y, .bool q]) := by
    intro a y q hay
    exact .tup rfl (fun j a' v' h1 h2 => by
      match j, h1, h2 with
      | 0, h1, h2 => cases h1; cases h2; exact hay
      | 1, h1, h2 => cases h1; cases h2; exact .bool _
      | j + 2, h1, _ => simp at h1)
  have run : ∀ {r0 : Option (Nat × Value)}, Instr.findNow .string (.string ⟨⟨k⟩⟩) xs.toList 0 = some r0 →
      (Instr.lookup t (.map (some cb.blk)) (.string ⟨⟨k⟩⟩) ok).run P w = (match r0 with
        | some (_, v) => .ok (if ok then .tuple #[v, .bool true] else v) w
        | none => .ok (if ok then .tuple #[zv, .bool false] else zv) w) := by
    intro r0 hr0
    unfold Instr.lookup
    rw [bind_ok (run_underlying hu w)]
    simp only
    rw [bind_ok (run_getMap h2)]
    simp only
    rw [bind_ok (run_pure _ w), bind_ok (run_checkKey hk _ _ w), bind_ok (run_findKey hk hr0 w)]
    cases r0 with
    | none => simp only; rw [bind_ok hz]; rfl
    | some q => obtain ⟨j, y⟩ := q; rfl
  cases hf : findM k es with
  | none =>
    rw [hf] at hv
    rw [run (find_none hf h3).1]
    cases ok
    · cases hv; exact ⟨_, rfl, hzr⟩
    · cases hv; exact ⟨_, rfl, pair hzr⟩
  | some y =>
    rw [hf] at hv
    obtain ⟨j, e, g1, g2, g3, g4, g5, g6⟩ := find_some (i := 0) hf h3
    rw [run g1]
    cases ok
    · cases hv; exact ⟨_, rfl, g4⟩
    · cases hv; exact ⟨_, rfl, pair g4⟩

end
end Go.Ab
