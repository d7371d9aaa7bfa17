/-
  StatusNil answers true for every input, and leaves its arguments as they were.
-/
import Derived.Test.YtclilclihmefbaaGreatDoorNilRun
import Derived.Test.YtclilclihmefbaaGreatDoorRows
import Derived.Test.YtclilclihmefbaaGreatDoorTie
import Derived.Test.YtclilclihmefbaaGreatDoorCards
import Derived.Shelf.Vars
import Derived.JoinedOf
import Derived.SevenTiedAt
import Derived.LaidLaws
import Derived.LaidHandle
import Derived.ProofKit
namespace Go.Proofs.YtclilclihmefbaaGreatDoor
open Go Go.Ab Go.RowKit Go.WideShapes Go.ChangeShapes
set_option maxRecDepth 100000

theorem block0 : (((begin Tryz.prog (fun _ _ => 0) default).world.heap[0]?).bind Obj.row?).map (·.2) = some 3 := by kernel_rfl
theorem block1 : (((begin Tryz.prog (fun _ _ => 0) default).world.heap[1]?).bind Obj.row?).map (·.2) = some 317 := by kernel_rfl
theorem block2 : (((begin Tryz.prog (fun _ _ => 0) default).world.heap[2]?).bind Obj.row?).map (·.2) = some 320 := by kernel_rfl
theorem block3 : (((begin Tryz.prog (fun _ _ => 0) default).world.heap[3]?).bind Obj.row?).map (·.2) = some 346 := by kernel_rfl
theorem block4 : (((begin Tryz.prog (fun _ _ => 0) default).world.heap[4]?).bind Obj.row?).map (·.2) = some 357 := by kernel_rfl
theorem block5 : (((begin Tryz.prog (fun _ _ => 0) default).world.heap[5]?).bind Obj.row?).map (·.2) = some 84 := by kernel_rfl
theorem zero0 : ((begin Tryz.prog (fun _ _ => 0) default).world.heap[0]?).bind Obj.row? = some (#[.int .i64 0], 3) := by kernel_rfl

/-- what internal/bytealg.MaxLen holds: some number -/
theorem maxLen_of {W : World} (h : W.ShapedOpen Tryz.prog) : ∃ M, W.cell? ⟨0, 0, none⟩ = some (.int .i64 M) :=
  cell_of_shapedOpen_int h (by rw [globs]; decide) zero0 rfl (by kernel_rfl) (by kernel_rfl) Tryz.underlying3

theorem held {W : World} (h : W.ShapedOpen Tryz.prog) {E : Cx} {M : Int} (hE : E.ext 2 = .int .i64 M) (hM : W.cell? ⟨0, 0, none⟩ = some (.int .i64 M)) : Held0 E (map0 gls.length W.heap) gls W.heap := by
  have none_ : ∀ {g : Nat} {t : TypeId}, g < Tryz.prog.globals.size → (((begin Tryz.prog (fun _ _ => 0) default).world.heap[g]?).bind Obj.row?).map (·.2) = some t →
      ∃ (c : Array Value) (fz : Nat × Nat), W.heap[g]? = some (.cells c t fz) ∧ ([] : List AV).length ≤ c.size ∧ ∀ (i : Nat) a, ([] : List AV)[i]? = some a → ∃ v, c[i]? = some v ∧ VR E (map0 gls.length W.heap) a v ∧ leafV v = true := by
    intro g t hg h0
    obtain ⟨cs, hc⟩ := shaped_block h hg h0
    exact ⟨cs, _, hc, Nat.zero_le _, fun i a ha => by simp at ha⟩
  have hs : ∀ g, g < 6 → g < Tryz.prog.globals.size := fun g hg => by rw [globs]; exact hg
  intro b g hb
  match b, hb with
  | 0, hb =>
    cases hb
    obtain ⟨cs, hc⟩ := shaped_block h (hs 0 (by decide)) block0
    have h0 : cs[0]? = some (.int .i64 M) := by
      simpa [World.cell?, hc] using hM
    refine ⟨cs, _, hc, ?_, fun i a ha => ?_⟩
    · exact lt_of_some h0
    · cases i with
      | zero =>
        cases ha
        refine ⟨_, h0, ?_, rfl⟩
        rw [← hE]
        exact .ext (by rw [hE]; rfl)
      | succ i => simp at ha
  | 1, hb => cases hb; exact none_ (hs 1 (by decide)) block1
  | 2, hb => cases hb; exact none_ (hs 2 (by decide)) block2
  | 3, hb => cases hb; exact none_ (hs 3 (by decide)) block3
  | 4, hb => cases hb; exact none_ (hs 4 (by decide)) block4
  | 5, hb => cases hb; exact none_ (hs 5 (by decide)) block5
  | b + 6, hb => simp [gls] at hb

/-- the call, at any arguments -/
theorem law_calls (W : World) (h : W.ShapedOpen Tryz.prog) (v0 v1 : Value) (h0 : leafV v0 = true) (h1 : leafV v1 = true) :
    Calls Tryz.prog 3 #[v0, v1] W fun e W' => e = .returned (.bool true) ∧ Below W.heap.size W W' := by
  obtain ⟨M, hM⟩ := maxLen_of h
  let E : Cx := ⟨fun i => match i with | 0 => v0 | 1 => v1 | _ => .int .i64 M, Tryz.prog⟩
  obtain ⟨h', hr⟩ := tells_true run
  have hl : LR E (map0 gls.length W.heap) [.ext 0, .ext 1] (#[v0, v1] : Array Value).toList :=
    LR.cons (v := v0) (.ext (E := E) (i := 0) h0) (LR.cons (v := v1) (.ext (E := E) (i := 1) h1) LR.nil)
  refine (run_calls (E := E) (env1_ok (E := E) (M := M) rfl rfl) mixed hr (held h (E := E) rfl hM) globs hl).mono fun e W' ⟨x, m', q1, q2, q3⟩ => ?_
  cases q2
  exact ⟨q1, q3⟩

/-! the row -/

theorem own : ownKnob Tryz.prog.godebug = none := by kernel_rfl
theorem rec22 : Tryz.prog.readableRec 22 = true := by kernel_rfl
theorem rec23 : Tryz.prog.readableRec 23 = true := by kernel_rfl
theorem rows22 : 22 < Tryz.prog.types.size := of_decide_eq_true (by kernel_rfl)
theorem rows23 : 23 < Tryz.prog.types.size := of_decide_eq_true (by kernel_rfl)
theorem laidOut : laidOutB Tryz.prog = true := by kernel_rfl

/-- a datum's cells -/
def flatD (d : DataW Unit) : Nat → List Value
  | 0 => []
  | n + 1 => match d with
    | .lit (.int k x) => [.int k x]
    | .agg l => (l.map fun d => flatD d n).flatten
    | _ => []

/-- A world that meets the condition: the settled one, the variables' cells laid. -/
noncomputable def laidWorld (os : Os) : World :=
  let w0 := World.holding Tryz.prog os ⟨#[], #[], []⟩
  let put := fun (d : DataW Unit) (o : Obj) => match o with
    | .cells _ t frozen => Obj.cells (flatD d 4).toArray t frozen
    | o => o
  { w0 with heap := ((((w0.heap.modify 1 (put Rows.laid_unicode_utf8_first)).modify 2 (put Rows.laid_unicode_utf8_acceptRanges)).modify 3 (put Rows.laid_internal_strconv_uint64pow10)).modify 4
      (put Rows.laid_math_bits_deBruijn32tab)).modify 5 (put Rows.laid_math_bits_deBruijn64tab) }

theorem laidWorld_met (os : Os) (args : Array Value) : laidMetH Tryz.prog Rows.statusNilRow.laid ((laidWorld os).forCall (fun _ _ => 0) ⟨#[], args, []⟩).memory :=
  laidMetH_of_parts3 (fuel := 8) (laidMet_of_run' 8 (by kernel_rfl) (by kernel_rfl)) (by kernel_rfl) (by kernel_rfl)

theorem lifted (os : Os) (started : os.Started) (H : Type) (enc : TypeId × Value → H) :
    ReturnsInHanded {} Tryz.checked os 3 .any (fun w args => (Rows.statusNilSpec.pre enc Tryz.prog Tryz.f3 [] false w args ∧ laidMetH Tryz.prog Rows.statusNilRow.laid w) ∧ sizedMet enc Tryz.prog Tryz.f3 (OpenSpec.ofChange Rows.statusNilSpec) false w args)
      (Rows.statusNilSpec.post enc Tryz.prog Tryz.f3 false true false false) := by
  refine law_lifted (C := Tryz.checked) (X := fun w _ => laidMetH Tryz.prog Rows.statusNilRow.laid w) (fun _ _ _ hh h => h.of_heap hh) own started (by kernel_rfl) Tryz.func3
    (ChangeSpec.witness_at (enc := enc) (C := Tryz.checked) (os := os) (X := fun w _ => laidMetH Tryz.prog Rows.statusNilRow.laid w) false (laidWorld os) #[.slice none 0 0, .slice none 0 0] 8 rfl (by kernel_rfl) (by kernel_rfl) (by kernel_rfl) (by kernel_rfl) (by kernel_rfl) (laidWorld_met os _)) ?_
  intro W base args ds gs before hval0 hW hsh _
  have hval : ∀ (j : Nat) t v, Tryz.f3.params[j]? = some t → args[j]? = some v → Value.okWide Tryz.prog W .any base t v := hval0
  have hW' := hW
  obtain ⟨p, q, hA0, hV, rfl, hfz, hnd⟩ := hW
  have hA : DataW.TrodAll enc Tryz.prog W 0 (fun _ => true) true Tryz.f3.params.toList args.toList ds p := hA0
  rw [Tryz.params3] at hA hval
  obtain ⟨v0, v1, d0, d1, p0, p1, rfl, rfl, rfl, h0, h1⟩ := trodAll_two hA
  obtain ⟨rfl, rfl⟩ := trodVars_none hV
  obtain ⟨a0, l0, c0, rfl⟩ := okWide_slice Tryz.underlying22 (hval 0 22 v0 rfl rfl)
  obtain ⟨a1, l1, c1, rfl⟩ := okWide_slice Tryz.underlying23 (hval 1 23 v1 rfl rfl)
  refine (law_calls W hsh _ _ rfl rfl).mono fun e W' ⟨he, hb⟩ => ⟨_, he, ?_⟩
  refine law_post (tb := 4) hW' rfl laidOut ?_ (by kernel_rfl) Tryz.underlying4 rfl rfl rfl hb
  intro t ht
  rw [show Tryz.checked.prog = Tryz.prog from rfl] at *
  rw [Tryz.params3] at ht
  simp only [List.mem_cons, List.not_mem_nil, or_false] at ht
  rcases ht with rfl | rfl
  · exact ⟨rec22, rows22⟩
  · exact ⟨rec23, rows23⟩

theorem inPlace3 : Tryz.prog.inPlace 3 = Rows.statusNilRow.inPlace := by kernel_rfl
theorem unfollowed3 : Tryz.prog.unfollowed 3 = true := by kernel_rfl
theorem recurses3 : Tryz.prog.recurses 3 = true := by kernel_rfl
theorem varsNamed3 : Tryz.prog.varsNamed 3 = Rows.statusNilRow.named := by kernel_rfl

theorem facts : joinedFacts Tryz.prog 3 Tryz.f3 Rows.statusNilSpec Rows.statusNilRow = true := by
  unfold joinedFacts
  rw [inPlace3, unfollowed3, recurses3, varsNamed3, laidOut]
  kernel_rfl

theorem said : Rows.StatusNilSaid :=
  OpenClaim.holds_of_wide 3 Tryz.f3 rfl rfl rfl rfl rfl rfl rfl ⟨rfl, rfl, rfl, rfl, rfl⟩ rfl rfl rfl rfl rfl (by kernel_rfl) Tryz.func3 facts
    (of_decide_eq_true (by kernel_rfl)) (by unfold Func.isWrapper; rw [if_neg (of_decide_eq_false (by kernel_rfl))]; exact ⟨rfl, rfl⟩)
    (fun os started H enc _ => lifted os started H enc)

theorem wfByText : Rows.statusNilRow.wfByText (OpenSpec.ofChange Rows.statusNilSpec) = true := by kernel_rfl
theorem mainIs : Tryz.prog.mainIs = some (true, "ed3b3f420798cfed349851cbb592bddad5aaeb699d694079fff18b786f164b73".toList) := by kernel_rfl
theorem named3 : Tryz.prog.funcNamed "chandler/chandlerlaw25.StatusNil" = some 3 := by kernel_rfl
theorem looks : true = Tryz.prog.looks [] := by kernel_rfl
theorem wants22 : Tryz.prog.wantsStandIn 22 = false := by kernel_rfl
theorem wants23 : Tryz.prog.wantsStandIn 23 = false := by kernel_rfl
theorem goesBy : false = Rows.statusNilRow.goesBy Tryz.prog := by kernel_rfl

theorem statusNil_holds : Rows.StatusNilCardSaid :=
  Claim7.holds_tied_plain_at .later [] [.data, .data, .data, .data, .pinned] true (true, "ed3b3f420798cfed349851cbb592bddad5aaeb699d694079fff18b786f164b73") true
    said (fun _ h => by cases h) wfByText (fun _ h => by cases h) statusNil_row_tie rfl ⟨rfl, rfl⟩ mainIs rfl
    (fun f fn hf hfn => by
      obtain rfl : f = 3 := Option.some.inj (named3.symm.trans hf) |>.symm
      obtain rfl : fn = Tryz.f3 := (Option.some.inj (Tryz.func3.symm.trans hfn)).symm
      exact ⟨looks, fun j t ht => by
        rw [Tryz.params3] at ht
        match j, ht with
        | 0, ht => cases ht; exact wants22
        | 1, ht => cases ht; exact wants23
        | j + 2, ht => simp at ht⟩)
    goesBy
end Go.Proofs.YtclilclihmefbaaGreatDoor
