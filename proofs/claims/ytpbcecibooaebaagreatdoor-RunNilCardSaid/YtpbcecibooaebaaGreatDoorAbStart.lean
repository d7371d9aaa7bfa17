/-
  From a run of the abstract machine to a call in any world in which the package-level variables hold what they hold; and to the statement's own words.
-/
import Derived.Test.YtpbcecibooaebaaGreatDoorAbDraw12
import Derived.Carry
import Derived.RowKit
import Derived.Handed
import Derived.WideKeyArgs
import GoSem.ClaimGoes
namespace Go.Ab
open Go Go.RowKit

section
variable {E : Cx} {P : Program}

/-- the package-level variables: what they hold, and of which type they are -/
noncomputable def heap0 (gs : List (List AV × Nat)) : AH := gs.foldl (fun h g => h.new (.cells g.1 g.2 true)) ⟨0, .leaf⟩

theorem foldl_new (gs : List (List AV × Nat)) : ∀ (h : AH), (gs.foldl (fun h g => h.new (.cells g.1 g.2 true)) h).next = h.next + gs.length ∧
    ∀ b, (∀ c, h.next ≤ c → h.get c = none) → (gs.foldl (fun h g => h.new (.cells g.1 g.2 true)) h).get b = if b < h.next then h.get b else (gs[b - h.next]?).map fun g => .cells g.1 g.2 true := by
  induction gs with
  | nil =>
    intro h
    refine ⟨rfl, fun b hf => ?_⟩
    simp only [List.foldl_nil, List.getElem?_nil, Option.map_none]
    by_cases hb : b < h.next
    · rw [if_pos hb]
    · rw [if_neg hb]; exact hf b (by omega)
  | cons g gs ih =>
    intro h
    obtain ⟨h1, h2⟩ := ih (h.new (.cells g.1 g.2 true))
    rw [List.foldl_cons]
    refine ⟨by rw [h1, AH.next_new, List.length_cons]; omega, fun b hf => ?_⟩
    rw [h2 b (fun c hc => by rw [AH.next_new] at hc; rw [AH.get_new, if_neg (by omega)]; exact hf c (by omega)), AH.next_new, AH.get_new]
    by_cases hb : b < h.next
    · rw [if_pos (by omega), if_neg (by omega), if_pos hb]
    · rw [if_neg hb]
      by_cases e : h.next = b
      · subst e
        rw [if_pos (by omega), if_pos rfl, Nat.sub_self]; rfl
      · rw [if_neg (by omega), show b - h.next = (b - (h.next + 1)) + 1 by omega]; rfl

theorem get_leaf (n b : Nat) : (⟨n, .leaf⟩ : AH).get b = none := by cases b <;> rfl

theorem heap0_next (gs : List (List AV × Nat)) : (heap0 gs).next = gs.length := by
  have := (foldl_new gs ⟨0, .leaf⟩).1
  unfold heap0
  rw [this]; simp

theorem heap0_get (gs : List (List AV × Nat)) (b : Nat) : (heap0 gs).get b = (gs[b]?).map fun g => .cells g.1 g.2 true := by
  have := (foldl_new gs ⟨0, .leaf⟩).2 b (fun c _ => get_leaf 0 c)
  unfold heap0
  rw [this, if_neg (by simp)]; rfl

/-- the blocks of the package-level variables -/
noncomputable def map0 (n : Nat) (hp : Hp) : Mp := fun b => if b < n then match hp[b]? with
    | some (.cells c _ _) => some ⟨b, c.size⟩
    | _ => none
  else none

/-- what a world holds at the start -/
def Held0 (E : Cx) (m : Mp) (gs : List (List AV × Nat)) (hp : Hp) : Prop := ∀ (b : Nat) g, gs[b]? = some g → ∃ (c : Array Value) (fz : Nat × Nat), hp[b]? = some (.cells c g.2 fz) ∧ g.1.length ≤ c.size ∧
  ∀ (i : Nat) a, g.1[i]? = some a → ∃ v, c[i]? = some v ∧ VR E m a v ∧ leafV v = true

theorem rel0 {gs : List (List AV × Nat)} {hp : Hp} (h : Held0 E (map0 gs.length hp) gs hp) (hg : P.globals.size = gs.length) :
    Rel E (map0 gs.length hp) (heap0 gs) hp ∧ Globs P (map0 gs.length hp) ∧ ∀ k, ¬ Owned (map0 gs.length hp) (heap0 gs) k := by
  have key : ∀ b, b < gs.length → ∃ c e fz, hp[b]? = some (.cells c e fz) ∧ map0 gs.length hp b = some ⟨b, c.size⟩ := by
    intro b hb
    obtain ⟨c, fz, h1, _⟩ := h b gs[b] (by simp [hb])
    refine ⟨c, _, fz, h1, ?_⟩
    unfold map0
    rw [if_pos hb, h1]
  refine ⟨⟨fun b x hb => ?_, fun b b' x x' cb cb' h1 h2 h3 h4 hne ho => ?_, fun b hb => ?_⟩, fun g hg' => ?_, ?_⟩
  · rw [heap0_get] at hb
    cases hgb : gs[b]? with
    | none => rw [hgb] at hb; cases hb
    | some g =>
      rw [hgb] at hb
      cases hb
      have hlt : b < gs.length := by
        have := lt_of_some (hp := gs.toArray) (r := b) (by simpa using hgb)
        simpa using this
      obtain ⟨c, fz, k1, k2, k3⟩ := h b g hgb
      refine ⟨⟨b, c.size⟩, ?_, c, fz, k1, rfl, k2, k3, by simp⟩
      unfold map0
      rw [if_pos hlt, k1]
  · rw [heap0_get] at h1 h2
    exfalso
    rcases ho with ho | ho
    · cases hgb : gs[b]? with
      | none => rw [hgb] at h1; cases h1
      | some g => rw [hgb] at h1; cases h1; simp [Blk.own] at ho
    · cases hgb : gs[b']? with
      | none => rw [hgb] at h2; cases h2
      | some g => rw [hgb] at h2; cases h2; simp [Blk.own] at ho
  · rw [heap0_next] at hb
    unfold map0
    rw [if_neg (by omega)]
  · obtain ⟨c, e, fz, _, k2⟩ := key g (by omega)
    exact ⟨_, k2, rfl⟩
  · rintro k ⟨b, x, cb, h1, ho, _⟩
    rw [heap0_get] at h1
    cases hgb : gs[b]? with
    | none => rw [hgb] at h1; cases h1
    | some g => rw [hgb] at h1; cases h1; simp [Blk.own] at ho

/-- a run, as a call -/
theorem run_calls {F : Env} (hE : EnvOk E P F) (hP : P.follows .mixedOrders = true) {n f : Nat} {as : List AV} {gs : List (List AV × Nat)} {W : World} {args : Array Value} {v : AV} {h' : AH}
    (hrun : acall F (aexec F n) (.fn f [] []) as (heap0 gs) = some (v, h')) (h : Held0 E (map0 gs.length W.heap) gs W.heap) (hg : P.globals.size = gs.length) (hl : LR E (map0 gs.length W.heap) as args.toList) :
    Calls P f args W fun e W' => ∃ x m', e = .returned x ∧ VR E m' v x ∧ Below W.heap.size W W' := by
  obtain ⟨r, g, o⟩ := rel0 (P := P) h hg
  have := ((all_ok hE hP n).fn hrun).2 g r hl
  rw [callsIn_wide] at this
  refine this.mono fun e W' he => ?_
  cases e with
  | returned x =>
    obtain ⟨m', h1, _, h3, h4⟩ := he
    exact ⟨x, m', rfl, h1, h4.os, h4.tape, h4.output, h3.size, fun k hk => h3.keep k hk (o k)⟩
  | panicked c => exact he.elim
  | outgrown => exact he.elim
end

/-! the statement's words -/

section
open Go.RowKit Go.WideShapes Go.ChangeShapes
variable {H : Type} {enc : TypeId × Value → H} {P : Program}

theorem trodAll_below (hl : laidOutB P = true) {W W' : World} (hb : Below W.heap.size W W') : ∀ {ts : List TypeId} {vs : List Value} {ds : List (DataW H)} {ps : List MemPlace}, (∀ t ∈ ts, P.readableRec t = true ∧ t < P.types.size) →
    DataW.TrodAll enc P W 0 (fun _ => true) true ts vs ds ps → (∀ p ∈ ps, p.block < W.heap.size) → DataW.TrodAll enc P W' 0 (fun b => decide (b < W.heap.size)) true ts vs ds ps
  | [], [], [], _, _, h, _ => h
  | t :: ts, v :: vs, d :: ds, ps, hr, h, hp => by
    obtain ⟨p, q, h1, h2, rfl⟩ := h
    exact ⟨p, q, Below.trod hl (hr t (List.mem_cons_self ..)).1 (hr t (List.mem_cons_self ..)).2 h1 hb (fun x hx => hp x (List.mem_append_left _ hx)),
      trodAll_below hl hb (fun t ht => hr t (List.mem_cons_of_mem _ ht)) h2 (fun x hx => hp x (List.mem_append_right _ hx)), rfl⟩
  | [], [], _ :: _, _, _, h, _ => h.elim
  | [], _ :: _, _, _, _, h, _ => by cases ‹List (DataW H)› <;> exact h.elim
  | _ :: _, [], _, _, _, h, _ => by cases ‹List (DataW H)› <;> exact h.elim
  | _ :: _, _ :: _, [], _, _, h, _ => h.elim

/-- a law that answers true, and leaves all that was -/
theorem law_post {fn : Func} {s : ChangeSpec} {apart fresh handsOn : Bool} {W W' : World} {args : Array Value} {ds gs : List (DataW H)} {before : List MemPlace} {tb : TypeId}
    (hW : DataW.Whole enc P fn.params.toList s.vars apart W args.toList ds gs before) (hv : s.vars = []) (hl : laidOutB P = true) (hr : ∀ t ∈ fn.params.toList, P.readableRec t = true ∧ t < P.types.size)
    (ht : fn.resultTypes = #[tb]) (hb : P.underlying tb = some .bool) (e1 : (s.fn H (ds ++ gs)).results = [.lit (.bool true)]) (e2 : (s.fn H (ds ++ gs)).args = ds) (e3 : (s.fn H (ds ++ gs)).vars = [])
    (hbl : Below W.heap.size W W') : s.post enc P fn apart fresh handsOn false W args (.bool true) W' := by
  have hW' := hW
  obtain ⟨p, q, h1, h2, h3, h4, h5⟩ := hW
  have hlt : ∀ x ∈ before, x.block < W.heap.size := fun x hx => hW'.lt x hx
  subst h3
  refine ⟨ds, gs, p ++ q, [], p, [], hW', ?_, ?_, ?_, hbl.frame _, fun h => by cases h⟩
  · rw [e1, ht]
    exact trodAll_mk1 (shut_bool hb true)
  · rw [e2]
    exact trodAll_below hl hbl hr h1 (fun x hx => hlt x (List.mem_append_left _ hx))
  · rw [e3, hv]; rfl

/-- the builder, with the world's shape -/
theorem law_lifted {a : Assume} {C : Checked} {os : Os} {f : FuncId} {fn : Func} {s : ChangeSpec} {conds : List PathCond} {apart fresh handsOn again : Bool} {X : World → Array Value → Prop}
    (hX : ∀ (w w' : World) (args : Array Value), w.heap = w'.heap → X w args → X w' args)
    (own : ownKnob C.prog.godebug = none) (started : os.Started) (noInit : C.prog.inits.idxOf? f = none) (hfn : C.prog.funcs[f]? = some fn)
    (witness : ∃ (w : World) (tape : Tape) (i : Input), w.os = os ∧ (w.forCall tape i).Shaped C.prog ∧ i.vars = [] ∧ Input.okWide C.prog (w.forCall tape i) .any w.heap.size f i ∧
      ((s.pre enc C.prog fn conds apart (w.forCall tape i).memory i.args ∧ X (w.forCall tape i).memory i.args) ∧ sizedMet enc C.prog fn (OpenSpec.ofChange s) apart (w.forCall tape i).memory i.args) ∧ a.holds C.prog (lone (Frame.enter C.prog f i.args .normal) [] (w.forCall tape i)))
    (contract : ∀ (W : World) (base : Nat) (args : Array Value) (ds gs : List (DataW H)) (before : List MemPlace),
      (∀ (j : Nat) t v, fn.params[j]? = some t → args[j]? = some v → Value.okWide C.prog W .any base t v) →
      DataW.Whole enc C.prog fn.params.toList s.vars apart W args.toList ds gs before → W.ShapedOpen C.prog → X W args →
      Calls C.prog f args W fun e W' => ∃ v, e = .returned v ∧ s.post enc C.prog fn apart fresh handsOn again W args v W') :
    ReturnsInHanded a C os f .any (fun w args => (s.pre enc C.prog fn conds apart w args ∧ X w args) ∧ sizedMet enc C.prog fn (OpenSpec.ofChange s) apart w args) (s.post enc C.prog fn apart fresh handsOn again) := by
  refine returnsInHanded_of_calls own started noInit witness ?_
  intro w tape i _ hsh _ hok hpre _
  obtain ⟨_, _, _, fn', hfn', _, _, _, _, hval⟩ := hok
  have e : fn' = fn := Option.some.inj (hfn'.symm.trans hfn)
  subst e
  obtain ⟨⟨⟨ds, gs, before, hw, hc⟩, hx⟩, hz⟩ := hpre
  have hw' := DataW.Whole.of_heap (w' := w.forCall tape i) (by rfl) hw
  refine (contract (w.forCall tape i) w.heap.size i.args ds gs before hval hw' hsh (hX _ _ _ (by rfl) hx)).mono fun e W' ⟨v, he, hp⟩ => ?_
  subst he
  exact ChangeSpec.post_blind hp
end
end Go.Ab

namespace Go.Ab
open Go

/-- a package-level variable's block -/
theorem shaped_block {P : Program} {W : World} {g : Nat} {t : TypeId} (h : W.ShapedOpen P) (hg : g < P.globals.size)
    (h0 : (((begin P (fun _ _ => 0) default).world.heap[g]?).bind Obj.row?).map (·.2) = some t) : ∃ cs, W.heap[g]? = some (.cells cs t) := by
  cases hz : ((begin P (fun _ _ => 0) default).world.heap[g]?).bind Obj.row? with
  | none => rw [hz] at h0; cases h0
  | some r =>
    obtain ⟨zero, u⟩ := r
    rw [hz] at h0
    cases h0
    obtain ⟨cs, h1, _⟩ := h.1 g zero _ hg hz
    exact ⟨cs, h1⟩

end Go.Ab

namespace Go.Ab
open Go

/-- where no function starts another goroutine, no call does -/
theorem goes_false {P : Program} (h : P.funcs.any Func.goes = false) (f : FuncId) : P.goes f = false := by
  have key : ∀ g : Nat, (P.funcs[g]?).any Func.goes = false := by
    intro g
    cases hg : P.funcs[g]? with
    | none => rfl
    | some fn =>
      simp only [Option.any_some]
      cases hb : Func.goes fn with
      | false => rfl
      | true =>
        have : P.funcs.any Func.goes = true := by
          rw [Array.any_eq_true']
          exact ⟨fn, Array.mem_of_getElem? hg, hb⟩
        rw [h] at this; cases this
  unfold Program.goes
  rw [h, Bool.and_false, Bool.or_false]
  rw [List.any_eq_false]
  intro g _
  rw [key g]; simp
end Go.Ab

namespace Go.Ab
open Go

theorem goesBy_false {P : Program} {c : OpenClaim} (h : P.funcs.any Func.goes = false) (hs : c.start = .entering) : c.goesBy P = false := by
  unfold OpenClaim.goesBy Program.goesAt Program.goesFrom
  rw [hs]
  cases P.funcNamed c.func with
  | none => rfl
  | some f => simp only [Option.any_some, goes_false h f, Bool.or_false]
end Go.Ab
