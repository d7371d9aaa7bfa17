/-
  Maps with texts as keys: what is made and written.
-/
import Derived.Test.YtpbcecibooaebaaGreatDoorAbAct7
namespace Go.Ab
open Go

section
variable {E : Cx} {m : Mp} {P : Program}

theorem mkmap_sound {h h' : AH} {w : World} (r : Rel E m h w.heap) (t : TypeId) {b : Nat} (na : NewAt m h b (.map []) h') :
    ∃ x w', (Instr.makeMap t none).run P w = .ok x w' ∧ PostX (some b) E m h w (.mapv b) h' x w' := by
  obtain ⟨m', g1, g2, g3⟩ := r.newAt na (o := .map #[] 0) (sz := 0) (fun m' _ => ⟨#[], 0, by simp, trivial⟩)
  exact ⟨_, { w with heap := w.heap.push (.map #[] 0) }, rfl, m', .mapv g3, g1, g2, ⟨rfl, rfl, rfl⟩⟩

theorem mapup_sound {h h' : AH} {w : World} (r : Rel E m h w.heap) {t key elem : TypeId} (hu : P.underlying t = some (.map key elem)) (hk : P.underlying key = some .string)
    {x i y v : AV} {X I Y : Value} (hx : VR E m x X) (hi : VR E m i I) (hy : VR E m y Y) (hv : amapup x i y h = some (v, h')) :
    ∃ w', (Instr.mapUpdate t X I Y).run P w = .ok () w' ∧ Post E m h w v h' Go.undef w' := by
  unfold amapup at hv
  split at hv <;> first | (simp at hv; done) | skip
  rename_i b k hleaf
  split at hv <;> first | (simp at hv; done) | skip
  rename_i es hb
  simp only [Option.some.injEq, Prod.mk.injEq] at hv
  obtain ⟨rfl, rfl⟩ := hv
  have hY : leafV Y = true := by
    cases hy <;> first | rfl | (simp [AV.leaf] at hleaf; done) | assumption
  cases hx with
  | mapv hm =>
  rename_i cb
  cases hi
  obtain ⟨cb', h1, xs, c, h2, h3⟩ := r.dom b _ hb
  rw [hm] at h1; cases h1
  have set : ∀ o : Obj, (setObj cb.blk o).run P w = .ok () { w with heap := w.heap.setIfInBounds cb.blk o } := by
    intro o
    simp [setObj, Sem.run, h2]
  have hlt := BR.lt (show BR E m (.map es) cb w.heap from ⟨xs, c, h2, h3⟩)
  have fin : ∀ {xs' : Array MapEntry} {c' : Nat}, MapR E m (putM k y es) xs'.toList → Post E m h w undef (h.put b (.map (putM k y es))) Go.undef { w with heap := w.heap.setIfInBounds cb.blk (.map xs' c') } := by
    intro xs' c' hr
    obtain ⟨p1, p2⟩ := r.put (y := .map (putM k y es)) (o := .map xs' c') hb rfl hm ⟨xs', c', by simp [hlt], hr⟩
    exact ⟨m, .undef, p1, p2, ⟨rfl, rfl, rfl⟩⟩
  cases hf : findM k es with
  | none =>
    obtain ⟨g1, g2⟩ := find_none (i := 0) hf h3
    refine ⟨_, ?_, fin (xs' := xs.push ⟨.string ⟨⟨k⟩⟩, Y, c⟩) (c' := c + 1) (by rw [Array.toList_push]; exact g2 y Y c hy hY)⟩
    unfold Instr.mapUpdate
    rw [bind_ok (run_underlying hu w)]
    simp only
    rw [bind_ok (run_getMap h2)]
    simp only
    rw [bind_ok (run_checkKey hk _ _ w), bind_ok (run_findKey hk g1 w)]
    exact set _
  | some y0 =>
    obtain ⟨j, e, g1, g2, g3, g4, g5, g6⟩ := find_some (i := 0) hf h3
    rw [Nat.zero_add] at g1
    have ge : ((xs[j]?).map (·.key)).getD (Value.string ⟨⟨k⟩⟩) = .string ⟨⟨k⟩⟩ := by
      have : xs[j]? = some e := by rw [← Array.getElem?_toList]; exact g2
      rw [this]
      exact g3
    refine ⟨_, ?_, fin (xs' := xs.modify j fun e => { e with key := .string ⟨⟨k⟩⟩, val := Y }) (c' := c) (by rw [Array.toList_modify]; exact g6 y Y hy hY)⟩
    unfold Instr.mapUpdate
    rw [bind_ok (run_underlying hu w)]
    simp only
    rw [bind_ok (run_getMap h2)]
    simp only
    rw [bind_ok (run_checkKey hk _ _ w), bind_ok (run_findKey hk g1 w)]
    simp only
    rw [ge]
    have hks : (Instr.keyThatStays (.string ⟨⟨k⟩⟩) (.string ⟨⟨k⟩⟩)).run P w = .ok (.string ⟨⟨k⟩⟩) w := by
      unfold Instr.keyThatStays
      rw [if_pos (by show ((⟨⟨k⟩⟩ : ByteArray) == ⟨⟨k⟩⟩) = true; rw [beq_toListBytes]; simp)]
      rfl
    rw [bind_ok hks]
    exact set _
end
end Go.Ab
