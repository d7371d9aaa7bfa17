/-
  RunNil answers true for every input, and leaves its arguments as they were.
-/
import Derived.Test.YtpbcecibooaebaaGreatDoorRun
import Derived.Test.YtpbcecibooaebaaGreatDoorRows
import Derived.Test.YtpbcecibooaebaaGreatDoorTie
import Derived.Test.YtpbcecibooaebaaGreatDoorCards
import Derived.Shelf.Vars
import Derived.JoinedOf
import Derived.SevenTiedAt
import Derived.LaidLaws
import Derived.LaidHandle
import Derived.ProofKit
namespace Go.Proofs.YtpbcecibooaebaaGreatDoor
open Go Go.Ab Go.RowKit Go.WideShapes Go.ChangeShapes
set_option maxRecDepth 100000

theorem block0 : (((begin Tryz.prog (fun _ _ => 0) default).world.heap[0]?).bind Obj.row?).map (·.2) = some 446 := by kernel_rfl
theorem block1 : (((begin Tryz.prog (fun _ _ => 0) default).world.heap[1]?).bind Obj.row?).map (·.2) = some 3 := by kernel_rfl
theorem block2 : (((begin Tryz.prog (fun _ _ => 0) default).world.heap[2]?).bind Obj.row?).map (·.2) = some 515 := by kernel_rfl
theorem block3 : (((begin Tryz.prog (fun _ _ => 0) default).world.heap[3]?).bind Obj.row?).map (·.2) = some 518 := by kernel_rfl
theorem block4 : (((begin Tryz.prog (fun _ _ => 0) default).world.heap[4]?).bind Obj.row?).map (·.2) = some 550 := by kernel_rfl
theorem block5 : (((begin Tryz.prog (fun _ _ => 0) default).world.heap[5]?).bind Obj.row?).map (·.2) = some 110 := by kernel_rfl
theorem zero0 : ((begin Tryz.prog (fun _ _ => 0) default).world.heap[1]?).bind Obj.row? = some (#[.int .i64 0], 3) := by kernel_rfl

/-- what internal/bytealg.MaxLen holds: some number -/
theorem maxLen_of {W : World} (h : W.ShapedOpen Tryz.prog) : ∃ M, W.cell? ⟨1, 0, none⟩ = some (.int .i64 M) :=
  cell_of_shapedOpen_int h (by rw [globs]; decide) zero0 rfl (by kernel_rfl) (by kernel_rfl) Tryz.underlying3

theorem held {W : World} (h : W.ShapedOpen Tryz.prog) {E : Cx} {M : Int} (hE : E.ext 9 = .int .i64 M) (hM : W.cell? ⟨1, 0, none⟩ = some (.int .i64 M)) : Held0 E (map0 gls.length W.heap) gls W.heap := by
  have none_ : ∀ {g : Nat} {t : TypeId}, g < Tryz.prog.globals.size → (((begin Tryz.prog (fun _ _ => 0) default).world.heap[g]?).bind Obj.row?).map (·.2) = some t →
      ∃ (c : Array Value) (fz : Nat × Nat), W.heap[g]? = some (.cells c t fz) ∧ ([] : List AV).length ≤ c.size ∧ ∀ (i : Nat) a, ([] : List AV)[i]? = some a → ∃ v, c[i]? = some v ∧ VR E (map0 gls.length W.heap) a v ∧ leafV v = true := by
    intro g t hg h0
    obtain ⟨cs, hc⟩ := shaped_block h hg h0
    exact ⟨cs, _, hc, Nat.zero_le _, fun i a ha => by simp at ha⟩
  have hs : ∀ g, g < 6 → g < Tryz.prog.globals.size := fun g hg => by rw [globs]; exact hg
  intro b g hb
  match b, hb with
  | 0, hb => cases hb; exact none_ (hs 0 (by decide)) block0
  | 1, hb =>
    cases hb
    obtain ⟨cs, hc⟩ := shaped_block h (hs 1 (by decide)) block1
    have h0 : cs[0]? = some (.int .i64 M) := by
      simpa [World.cell?, hc] using hM
    refine ⟨cs, _, hc, ?_, fun i a ha => ?_⟩
    · exact lt_of_some h0
    · cases i with
      | zero =>
        cases ha
        refine ⟨_, h0, ?_, rfl⟩
        rw [← hE]
        exact .ext (by rw [hE]; rfl)
      | succ i => simp at ha
  | 2, hb => cases hb; exact none_ (hs 2 (by decide)) block2
  | 3, hb => cases hb; exact none_ (hs 3 (by decide)) block3
  | 4, hb => cases hb; exact none_ (hs 4 (by decide)) block4
  | 5, hb => cases hb; exact none_ (hs 5 (by decide)) block5
  | b + 6, hb => simp [gls] at hb

/-- the call, at any arguments -/
theorem law_run (W : World) (h : W.ShapedOpen Tryz.prog) (v0 : Value) (v1 : Value) (x : Int) (h0 : leafV v0 = true) (h1 : leafV v1 = true) {r : Nat} (hx : x % 18446744073709551616 % ((5 : Nat) : Int) = (r : Int)) (hrun : tells (acall env2 (aexec env2 100000) (.fn 3 [] []) [.ext 0, .ext 1, .res .i64 5 r] (heap0 gls)) (.bool true) = true) :
    Calls Tryz.prog 3 #[v0, v1, .int .i64 x] W fun e W' => e = .returned (.bool true) ∧ Below W.heap.size W W' := by
  obtain ⟨M, hM⟩ := maxLen_of h
  let E : Cx := ⟨fun i => match i with | 0 => v0 | 1 => v1 | _ => .int .i64 M, Tryz.prog⟩
  obtain ⟨h', hr⟩ := tells_true hrun
  have hl : LR E (map0 gls.length W.heap) [.ext 0, .ext 1, .res .i64 5 r] (#[v0, v1, .int .i64 x] : Array Value).toList := LR.cons (.ext (E := E) (i := 0) h0) (LR.cons (.ext (E := E) (i := 1) h1) (LR.cons (.res (E := E) hx (fun h => by cases h)) (LR.nil)))
  refine (run_calls (E := E) (env2_ok (E := E) (M := M) rfl rfl) mixed hr (held h (E := E) rfl hM) globs hl).mono fun e W' ⟨x, m', q1, q2, q3⟩ => ?_
  cases q2
  exact ⟨q1, q3⟩

theorem law_calls (W : World) (h : W.ShapedOpen Tryz.prog) (v0 : Value) (v1 : Value) (x : Int) (h0 : leafV v0 = true) (h1 : leafV v1 = true) :
    Calls Tryz.prog 3 #[v0, v1, .int .i64 x] W fun e W' => e = .returned (.bool true) ∧ Below W.heap.size W W' := by
  have hx : ∃ r : Nat, r < 5 ∧ x % 18446744073709551616 % ((5 : Nat) : Int) = (r : Int) := ⟨(x % 18446744073709551616 % ((5 : Nat) : Int)).toNat, by omega, by omega⟩
  obtain ⟨r, hr, hx⟩ := hx
  match r, hr with
  | 0, _ => exact law_run W h v0 v1 x h0 h1 hx run0
  | 1, _ => exact law_run W h v0 v1 x h0 h1 hx run1
  | 2, _ => exact law_run W h v0 v1 x h0 h1 hx run2
  | 3, _ => exact law_run W h v0 v1 x h0 h1 hx run3
  | 4, _ => exact law_run W h v0 v1 x h0 h1 hx run4
  | r + 5, hr => omega

/-! the row -/

theorem own : ownKnob Tryz.prog.godebug = none := by kernel_rfl
theorem rec3 : Tryz.prog.readableRec 3 = true := by kernel_rfl
theorem rows3 : 3 < Tryz.prog.types.size := of_decide_eq_true (by kernel_rfl)
theorem rec22 : Tryz.prog.readableRec 22 = true := by kernel_rfl
theorem rows22 : 22 < Tryz.prog.types.size := of_decide_eq_true (by kernel_rfl)
theorem rec23 : Tryz.prog.readableRec 23 = true := by kernel_rfl
theorem rows23 : 23 < Tryz.prog.types.size := of_decide_eq_true (by kernel_rfl)
theorem laidOut : laidOutB Tryz.prog = true := by kernel_rfl

/-- a datum's cells -/
def flatD (d : DataW Unit) : Nat → List Value
  | 0 => []
  | n + 1 => match d with
    | .lit (.int k x) => [.int k x]
    | .agg l => (l.map fun d => flatD d n).flatten
    | _ => []

/-- A world that meets the condition: the settled one, the variables' cells laid. -/
noncomputable def laidWorld (os : Os) : World :=
  let w0 := World.holding Tryz.prog os ⟨#[], #[], []⟩
  let put := fun (d : DataW Unit) (o : Obj) => match o with
    | .cells _ t frozen => Obj.cells (flatD d 4).toArray t frozen
    | o => o
  { w0 with heap := (((((w0.heap).modify 0 (put Rows.laid_math_bits_deBruijn32tab)).modify 2 (put Rows.laid_unicode_utf8_first)).modify 3 (put Rows.laid_unicode_utf8_acceptRanges)).modify 4 (put Rows.laid_internal_strconv_uint64pow10)).modify 5 (put Rows.laid_math_bits_deBruijn64tab) }

theorem laidWorld_met (os : Os) (args : Array Value) : laidMetH Tryz.prog Rows.runNilRow.laid ((laidWorld os).forCall (fun _ _ => 0) ⟨#[], args, []⟩).memory :=
  laidMetH_of_parts3 (fuel := 8) (laidMet_of_run' 8 (by kernel_rfl) (by kernel_rfl)) (by kernel_rfl) (by kernel_rfl)

theorem lifted (os : Os) (started : os.Started) (H : Type) (enc : TypeId × Value → H) :
    ReturnsInHanded {} Tryz.checked os 3 .any (fun w args => (Rows.runNilSpec.pre enc Tryz.prog Tryz.f3 [] false w args ∧ laidMetH Tryz.prog Rows.runNilRow.laid w) ∧ sizedMet enc Tryz.prog Tryz.f3 (OpenSpec.ofChange Rows.runNilSpec) false w args)
      (Rows.runNilSpec.post enc Tryz.prog Tryz.f3 false true false false) := by
  refine law_lifted (C := Tryz.checked) (X := fun w _ => laidMetH Tryz.prog Rows.runNilRow.laid w) (fun _ _ _ hh h => h.of_heap hh) own started (by kernel_rfl) Tryz.func3
    (ChangeSpec.witness_at (enc := enc) (C := Tryz.checked) (os := os) (X := fun w _ => laidMetH Tryz.prog Rows.runNilRow.laid w) false (laidWorld os) #[.slice none 0 0, .slice none 0 0, .int .i64 0] 8 rfl (by kernel_rfl) (by kernel_rfl) (by kernel_rfl) (by kernel_rfl) (by kernel_rfl) (laidWorld_met os _)) ?_
  intro W base args ds gs before hval0 hW hsh _
  have hval : ∀ (j : Nat) t v, Tryz.f3.params[j]? = some t → args[j]? = some v → Value.okWide Tryz.prog W .any base t v := hval0
  have hW' := hW
  obtain ⟨p, q, hA0, hV, rfl, hfz, hnd⟩ := hW
  have hA : DataW.TrodAll enc Tryz.prog W 0 (fun _ => true) true Tryz.f3.params.toList args.toList ds p := hA0
  rw [Tryz.params3] at hA hval
  obtain ⟨v0, v1, v2, d0, d1, d2, p0, p1, p2, rfl, rfl, rfl, h0, h1, h2⟩ := trodAll_three hA
  obtain ⟨rfl, rfl⟩ := trodVars_none hV
  obtain ⟨a0, l0, c0, rfl⟩ := okWide_slice Tryz.underlying22 (hval 0 22 v0 rfl rfl)
  obtain ⟨a1, l1, c1, rfl⟩ := okWide_slice Tryz.underlying23 (hval 1 23 v1 rfl rfl)
  obtain ⟨x2, rfl, rfl, rfl, w2⟩ := open_int Tryz.underlying3 (hval 2 3 v2 rfl rfl) h2
  refine (law_calls W hsh _ _ _ rfl rfl).mono fun e W' ⟨he, hb⟩ => ⟨_, he, ?_⟩
  refine law_post (tb := 4) hW' rfl laidOut ?_ (by kernel_rfl) Tryz.underlying4 rfl rfl rfl hb
  intro t ht
  rw [show Tryz.checked.prog = Tryz.prog from rfl] at *
  rw [Tryz.params3] at ht
  simp only [List.mem_cons, List.not_mem_nil, or_false] at ht
  rcases ht with rfl | rfl | rfl
  · exact ⟨rec22, rows22⟩
  · exact ⟨rec23, rows23⟩
  · exact ⟨rec3, rows3⟩

theorem clos : Tryz.prog.closure 3 = [3, 4, 10, 8, 25, 28, 17, 31, 57, 58, 59, 119, 189, 191, 190, 253, 118, 45, 96, 97, 62, 30, 32, 60, 72, 135, 199, 173, 244, 318, 392, 441, 393, 394, 395, 442, 258, 328, 259, 260, 261, 329, 330, 321, 125, 211, 212, 213, 275, 336, 276, 200, 262, 277, 202, 109, 183, 117, 188, 252, 325, 398, 349, 414, 326, 399, 443, 470, 458, 471, 480, 472, 320, 396, 482, 492, 495, 496, 108, 182, 146, 73, 136, 184, 250, 120, 121, 86, 51, 105, 177, 178, 179, 180, 106, 181, 248, 249, 324, 397, 107, 192, 193, 255, 254, 327, 194, 36, 68, 127, 201, 128, 203, 205, 204, 263, 69, 122, 196, 197, 257, 195, 256, 16, 18, 33, 46, 48, 44, 94, 98, 100, 49, 47, 99, 101, 102, 171, 61, 95, 169, 233, 234, 300, 365, 427, 452, 453, 348, 475, 476, 454, 455, 477, 478, 288, 490, 301, 366, 428, 367, 429, 185, 251, 456, 479, 110, 114, 302, 303, 235, 236, 237, 304, 238, 239, 170, 240, 305, 306, 368, 369, 430, 457, 459, 460, 481, 491, 370, 431, 462, 484, 461, 483, 323, 307, 313, 384, 241, 5, 19, 6, 9, 24, 20, 34, 63, 76, 143, 214, 144, 215, 278, 279, 337, 408, 145, 147, 123, 198, 151, 79, 64, 80, 65, 35, 66, 124, 126, 67, 37, 70, 38, 71, 129, 130, 131, 206, 132, 207, 133, 208, 265, 266, 264, 331, 209, 267, 268, 283, 347, 332, 400, 401, 444, 402, 410, 411, 403, 445, 446, 473, 404, 405, 406, 407, 269, 270, 333, 271, 334, 272, 134, 210, 273, 274, 335, 74, 75, 137, 138, 139, 140, 141, 142, 77, 78, 81, 148, 85, 149, 150, 153, 154, 40, 90, 91, 92, 167, 93, 168, 157, 155, 216, 217, 82, 83, 152, 84, 156, 39, 87, 158, 218, 222, 287, 281, 280, 338, 219, 220, 282, 339, 340, 409, 341, 342, 412, 413, 447, 343, 344, 345, 346, 221, 284, 286, 351, 415, 285, 350, 159, 88, 160, 161, 223, 289, 224, 290, 352, 358, 353, 416, 354, 355, 417, 418, 448, 356, 357, 359, 360, 162, 225, 226, 227, 291, 292, 293, 294, 163, 164, 165, 228, 166, 229, 295, 296, 361, 297, 298, 362, 419, 363, 420, 449, 421, 422, 450, 451, 474, 423, 424, 425, 426, 230, 231, 232, 299, 364, 89, 7, 21, 22, 41, 42, 43, 23, 50, 103, 172, 242, 308, 371, 432, 463, 485, 464, 486, 309, 372, 433, 373, 374, 375, 243, 311, 310, 376, 434, 436, 435, 465, 377, 378, 437, 466, 487, 488, 467, 489, 493, 468, 494, 438, 379, 380, 381, 439, 382, 383, 312, 314, 316, 315, 385, 317, 386, 387, 440, 469, 388, 389, 390, 391, 104, 174, 245, 319, 175, 246, 322, 186, 176, 247, 54, 111, 55, 116, 115, 187, 112, 113, 52, 11, 26, 53, 12, 27, 13, 14, 29, 56, 15] := by kernel_rfl
theorem inPlace3 : Tryz.prog.inPlace 3 = Rows.runNilRow.inPlace := by
  unfold Program.inPlace
  rw [clos]
  kernel_rfl
theorem unfollowed3 : Tryz.prog.unfollowed 3 = true := by
  unfold Program.unfollowed
  rw [clos]
  kernel_rfl
theorem recurses3 : Tryz.prog.recurses 3 = true := by
  unfold Program.recurses
  rw [unfollowed3]
  rfl
theorem varsNamed3 : Tryz.prog.varsNamed 3 = Rows.runNilRow.named := by
  unfold Program.varsNamed
  rw [clos]
  kernel_rfl
theorem noGo : Tryz.prog.funcs.any Func.goes = false := by kernel_rfl

theorem facts : joinedFacts Tryz.prog 3 Tryz.f3 Rows.runNilSpec Rows.runNilRow = true := by
  unfold joinedFacts
  rw [inPlace3, unfollowed3, recurses3, varsNamed3, laidOut]
  kernel_rfl

theorem said : Rows.RunNilSaid :=
  OpenClaim.holds_of_wide 3 Tryz.f3 rfl rfl rfl rfl rfl rfl rfl ⟨rfl, rfl, rfl, rfl, rfl⟩ rfl rfl rfl rfl rfl (by kernel_rfl) Tryz.func3 facts
    (of_decide_eq_true (by kernel_rfl)) (by unfold Func.isWrapper; rw [if_neg (of_decide_eq_false (by kernel_rfl))]; exact ⟨rfl, rfl⟩)
    (fun os started H enc _ => lifted os started H enc)

theorem wfByText : Rows.runNilRow.wfByText (OpenSpec.ofChange Rows.runNilSpec) = true := by kernel_rfl
theorem mainIs : Tryz.prog.mainIs = some (true, "15853b468c4c98ae3b74e13c57dcf830038006e167c84048621e882c06a9a013".toList) := by kernel_rfl
theorem named3 : Tryz.prog.funcNamed "chandler/chandlerlaw26.RunNil" = some 3 := by kernel_rfl
theorem looks : true = Tryz.prog.looks [] := by kernel_rfl
theorem wants3 : Tryz.prog.wantsStandIn 3 = false := by kernel_rfl
theorem wants22 : Tryz.prog.wantsStandIn 22 = false := by kernel_rfl
theorem wants23 : Tryz.prog.wantsStandIn 23 = false := by kernel_rfl
theorem goesBy : false = Rows.runNilRow.goesBy Tryz.prog := (goesBy_false noGo rfl).symm

theorem runNil_holds : Rows.RunNilCardSaid :=
  Claim7.holds_tied_plain_at .later [] [.data, .data, .data, .data, .pinned] true (true, "15853b468c4c98ae3b74e13c57dcf830038006e167c84048621e882c06a9a013") true
    said (fun _ h => by cases h) wfByText (fun _ h => by cases h) runNil_row_tie rfl ⟨rfl, rfl⟩ mainIs rfl
    (fun f fn hf hfn => by
      obtain rfl : f = 3 := Option.some.inj (named3.symm.trans hf) |>.symm
      obtain rfl : fn = Tryz.f3 := (Option.some.inj (Tryz.func3.symm.trans hfn)).symm
      exact ⟨looks, fun j t ht => by
        rw [Tryz.params3] at ht
        match j, ht with
        | 0, ht => cases ht; exact wants22
        | 1, ht => cases ht; exact wants23
        | 2, ht => cases ht; exact wants3
        | j + 3, ht => simp at ht⟩)
    goesBy
end Go.Proofs.YtpbcecibooaebaaGreatDoor
