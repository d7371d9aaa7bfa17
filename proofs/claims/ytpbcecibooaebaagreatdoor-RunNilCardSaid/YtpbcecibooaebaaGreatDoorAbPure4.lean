/-
  The instructions that leave the heap as it is: conversions; all of them.
-/
import Derived.Test.YtpbcecibooaebaaGreatDoorAbPure3
namespace Go.Ab
open Go

section
variable {E : Cx} {m : Mp} {P : Program}

theorem bytesOfCells_cons (c : AV) (cs : List AV) : bytesOfCells (c :: cs) = match c with
    | .int .u8 n => match bytesOfCells cs with
      | some l => some (UInt8.ofNat n.toNat :: l)
      | none => none
    | _ => none := rfl

theorem bytesOfCells_inv {c : AV} {cs : List AV} {s : List UInt8} (h : bytesOfCells (c :: cs) = some s) : ∃ n l, c = .int .u8 n ∧ bytesOfCells cs = some l ∧ s = UInt8.ofNat n.toNat :: l := by
  rw [bytesOfCells_cons] at h
  split at h <;> first | (simp at h; done) | skip
  rename_i n
  split at h <;> first | (simp at h; done) | skip
  rename_i l hl
  cases h
  exact ⟨n, l, rfl, hl, rfl⟩

theorem bytes_run {f : Value → ByteArray → Sem (ForInStep ByteArray)} (hf : ∀ n s w, (f (.int .u8 n) s).run P w = .ok (.yield (s.push (UInt8.ofNat n.toNat))) w) :
    ∀ {cs : List AV} {vs : List Value} {s : List UInt8}, LR E m cs vs → bytesOfCells cs = some s → ∀ (acc : List UInt8) (w : World),
    (forIn (m := Sem) vs (⟨⟨acc⟩⟩ : ByteArray) f).run P w = .ok ⟨⟨acc ++ s⟩⟩ w := by
  intro cs
  induction cs with
  | nil =>
    intro vs s h hs acc w
    rw [h.nil_inv]
    cases (show some [] = some s from hs)
    simp only [List.forIn_nil, List.append_nil]; rfl
  | cons c cs ih =>
    intro vs s h hs acc w
    obtain ⟨v, vs, rfl, hv, ht⟩ := h.cons_inv
    obtain ⟨n, l, rfl, hl, rfl⟩ := bytesOfCells_inv hs
    cases hv
    rw [List.forIn_cons, bind_ok (hf _ _ w)]
    have := ih ht hl (acc ++ [UInt8.ofNat n.toNat]) w
    rw [List.append_assoc] at this
    have e : (⟨⟨acc⟩⟩ : ByteArray).push (UInt8.ofNat n.toNat) = ⟨⟨acc ++ [UInt8.ofNat n.toNat]⟩⟩ := by simp [ByteArray.push]
    rw [← e] at this
    exact this

theorem run_viewAt {hp : Hp} {w : World} (hw : w.heap = hp) {b : Nat} {c : Array Value} {e : Nat} {fz : Nat × Nat} (h : hp[b]? = some (.cells c e fz)) : (viewAt b).run P w = .ok none w := by
  subst hw
  unfold viewAt
  have : (Go.shape b).run P w = .ok (some (e, c.size)) w := by simp [Go.shape, Sem.run, World.shape?, h]
  rw [bind_ok this]
  rfl

theorem run_shape' {w : World} {b : Nat} {c : Array Value} {e : Nat} {fz : Nat × Nat} (h : w.heap[b]? = some (.cells c e fz)) : (Go.shape b).run P w = .ok (some (e, c.size)) w := by
  simp [Go.shape, Sem.run, World.shape?, h]

theorem conv_sound {h : AH} {w : World} (r : Rel E m h w.heap) {src dst : TypeId} {x : Opd} {I : AI} (hc : cConv P src dst x = some I) (hact : I.act = false) {tm : FT} {v : AV}
    (hv : I.pure.f tm h = some v) {X : Value} (hx : VR E m (opd x tm) X) : ∃ y, (convert src dst X).run P w = .ok y w ∧ VR E m v y := by
  unfold cConv at hc
  split at hc
  · rename_i ks k hs hd
    cases hc
    simp only [AI.pure, toIntV] at hv
    split at hv <;> first | (simp at hv; done) | skip
    · rename_i q n hopd
      rw [hopd] at hx
      cases hx; cases hv
      refine ⟨_, ?_, .int _ _⟩
      unfold convert
      rw [bind_ok (run_underlying hs w), bind_ok (run_underlying hd w)]
      simp [Conv.intToInt]
    · rename_i kx q n hopd
      rw [hopd] at hx
      cases hx with
      | res h hu =>
      rename_i x
      refine ⟨.int k (k.wrap x), ?_, ?_⟩
      · unfold convert
        rw [bind_ok (run_underlying hs w), bind_ok (run_underlying hd w)]
        simp [Conv.intToInt]
      · split at hv <;> first | (simp at hv; done) | skip
        · cases hv
          have e : IntKind.u64.wrap x = x % 18446744073709551616 := rfl
          rw [e]
          exact .res (by rw [Int.emod_emod_of_dvd _ (Int.dvd_refl _)]; exact h) (fun _ => by omega)
        · cases hv
          have e : (IntKind.i64.wrap x) % 18446744073709551616 = x % 18446744073709551616 := by
            rw [← wrapF_eq]
            show sigW 18446744073709551616 9223372036854775808 x % 18446744073709551616 = _
            rw [sigW_eq _ _ (by decide)]
            split <;> omega
          exact .res (by rw [e]; exact h) (fun h => by cases h)
  all_goals try
    rename_i hs hd
    cases hc
    simp only [AI.pure] at hv
    split at hv <;> first | (simp at hv; done) | skip
    · rename_i q n hopd
      rw [hopd] at hx
      cases hx; cases hv
      refine ⟨_, ?_, .str _⟩
      unfold convert
      rw [bind_ok (run_underlying hs w), bind_ok (run_underlying hd w)]
      simp only [Conv.intToString, utf8]
      rfl
    · rename_i s hopd
      rw [hopd] at hx
      cases hx; cases hv
      refine ⟨_, ?_, .str _⟩
      unfold convert
      rw [bind_ok (run_underlying hs w), bind_ok (run_underlying hd w)]
      rfl
    done
  · -- bytes to a string
    rename_i e hs hd
    split at hc <;> first | (simp at hc; done) | skip
    rename_i hu8
    cases hc
    have hu8 : P.underlying e = some (.int .u8) := by
      unfold isU8 at hu8
      split at hu8
      · assumption
      · simp at hu8
    have pre : ∀ {A : Option Addr} {l c : Nat}, (convert src dst (.slice A l c)).run P w = (Conv.bytesToString (.slice A l c)).run P w := by
      intro A l c
      unfold convert
      rw [bind_ok (run_underlying hs w), bind_ok (run_underlying hd w)]
      simp only
      rw [bind_ok (run_underlying hu8 w)]
    simp only [AI.pure, astrOf] at hv
    split at hv <;> first | (simp at hv; done) | skip
    · rename_i b o len cap ex s hopd
      rw [hopd] at hx
      split at hv <;> first | (simp at hv; done) | skip
      rename_i cs hs1 hcs
      split at hv <;> first | (simp at hv; done) | skip
      rename_i str hstr
      cases hv
      obtain ⟨cb, vs, h1, h2, h3, h4, h5⟩ := r.at hcs
      cases hx with
      | slice hm hl hcap hxx hsz =>
        rw [h1] at hm; cases hm
        refine ⟨_, ?_, .str _⟩
        rw [pre]
        simp only [Conv.bytesToString]
        rw [← h3, bind_ok (run_loadCells h5)]
        rw [← Array.forIn_toList]
        exact bind_ok (bytes_run (P := P) (fun _ _ _ => rfl) h2 hstr [] w)
    · rename_i hopd
      rw [hopd] at hx
      cases hx; cases hv
      exact ⟨_, by rw [pre]; rfl, .str _⟩
    · rename_i hopd
      rw [hopd] at hx
      cases hx; cases hv
      refine ⟨_, ?_, .str _⟩
      rw [pre]
      rfl
  · split at hc <;> first | (simp at hc; done) | skip
    cases hc; simp [AI.act] at hact
  · split at hc <;> first | (simp at hc; done) | skip
    cases hc; simp [AI.act] at hact
  · -- a pointer to an unsafe one
    rename_i t hs hd
    split at hc <;> first | (simp at hc; done) | skip
    rename_i n hn
    cases hc
    have pre : ∀ {A : Option Addr}, (convert src dst (.pointer A)).run P w = (Conv.unsafePointer src dst (.pointer A)).run P w := by
      intro A
      unfold convert
      rw [bind_ok (run_underlying hs w), bind_ok (run_underlying hd w)]
    simp only [AI.pure, aptrTo] at hv
    split at hv <;> first | (simp at hv; done) | skip
    · rename_i hopd
      rw [hopd] at hx
      cases hx; cases hv
      refine ⟨_, ?_, .nilp⟩
      rw [pre]
      unfold Conv.unsafePointer
      rw [bind_ok (run_underlying hs w), bind_ok (run_underlying hd w)]
      rfl
    · rename_i b o hopd
      rw [hopd] at hx
      split at hv <;> first | (simp at hv; done) | skip
      rename_i cs e ro hb
      split at hv <;> first | (simp at hv; done) | skip
      rename_i hlt
      cases hv
      cases hx with
      | ptr hm =>
        rename_i cb
        obtain ⟨cb', h1, c, fz, h2, h3, h4, h5⟩ := r.dom b _ hb
        rw [hm] at h1; cases h1
        refine ⟨_, ?_, .ptr hm⟩
        rw [pre]
        unfold Conv.unsafePointer
        rw [bind_ok (run_underlying hs w), bind_ok (run_underlying hd w)]
        simp only [Conv.seenAt]
        have hva : (viewAt cb.blk).run P w = .ok none w := run_viewAt rfl h2
        have hse : (Conv.seenAt ⟨cb.blk, o, none⟩).run P w = .ok ⟨cb.blk, o, none⟩ w := by
          unfold Conv.seenAt
          rw [bind_ok hva]; rfl
        have hci : (cellsIn cb.blk).run P w = .ok (some c.size) w := by
          unfold cellsIn
          rw [bind_ok (run_shape' h2)]; rfl
        have hlt : o < cs.length := by simpa using hlt
        show (Conv.seenAt ⟨cb.blk, o, none⟩ >>= _).run P w = _
        rw [bind_ok hse, bind_ok hci, bind_ok (run_sizeOf hn w)]
        have : ¬ (o ≥ c.size) := by omega
        simp [this]
  · -- and back
    rename_i u hs hd
    split at hc <;> first | (simp at hc; done) | skip
    rename_i s hn
    cases hc
    have pre : ∀ {A : Option Addr}, (convert src dst (.pointer A)).run P w = (Conv.unsafePointer src dst (.pointer A)).run P w := by
      intro A
      unfold convert
      rw [bind_ok (run_underlying hs w), bind_ok (run_underlying hd w)]
    simp only [AI.pure, aptrOf] at hv
    split at hv <;> first | (simp at hv; done) | skip
    · rename_i hopd
      rw [hopd] at hx
      cases hx; cases hv
      refine ⟨_, ?_, .nilp⟩
      rw [pre]
      unfold Conv.unsafePointer
      rw [bind_ok (run_underlying hs w), bind_ok (run_underlying hd w)]
      rfl
    · rename_i b o hopd
      rw [hopd] at hx
      split at hv <;> first | (simp at hv; done) | skip
      rename_i cs e ro hb
      split at hv <;> first | (simp at hv; done) | skip
      rename_i he hmod hle
      cases hv
      have he : u = e := by simpa using he
      subst he
      have hmod : o % (s + 1) = 0 := by simpa using hmod
      have hle : o + (s + 1) ≤ cs.length := by simpa using hle
      cases hx with
      | ptr hm =>
        rename_i cb
        obtain ⟨cb', h1, c, fz, h2, h3, h4, h5⟩ := r.dom b _ hb
        rw [hm] at h1; cases h1
        refine ⟨_, ?_, .ptr hm⟩
        rw [pre]
        unfold Conv.unsafePointer
        rw [bind_ok (run_underlying hs w), bind_ok (run_underlying hd w)]
        have hva : (viewAt cb.blk).run P w = .ok none w := run_viewAt rfl h2
        have hse : (Conv.seenAt ⟨cb.blk, o, none⟩).run P w = .ok ⟨cb.blk, o, none⟩ w := by
          unfold Conv.seenAt
          rw [bind_ok hva]; rfl
        obtain ⟨i, hi, hsz⟩ := sizeT_some hn
        have hcell : P.cellsOf u = s + 1 := by simp [Program.cellsOf, hi, hsz]
        have hva2 : (variablesAt ⟨cb.blk, o, none⟩ u 1).run P w = .ok true w := by
          unfold variablesAt
          have hp : (Go.program).run P w = .ok P w := rfl
          rw [bind_ok hp, bind_ok (run_shape' h2)]
          have hdep : P.depth = (2 * (P.types.size + Made.depth) + 1) + 1 := rfl
          have hl : liesAt P P.depth u (c.size / P.cellsOf u) o u 1 = true := by
            rw [hdep]
            simp only [liesAt]
            rw [hdep]
            simp only [rowAt, hcell]
            have h6 : o / (s + 1) + 1 ≤ c.size / (s + 1) := by
              rw [Nat.le_div_iff_mul_le (by omega), Nat.add_mul]
              have := Nat.div_add_mod o (s + 1)
              rw [hmod, Nat.mul_comm] at this
              omega
            have h7 : sameLayout P (2 * (P.types.size + Made.depth) + 1 + 1) u u = true := by simp [sameLayout]
            simp [hmod, h6, h7]
          simp only [hl]
          rfl
        simp only
        show (Conv.seenAt ⟨cb.blk, o, none⟩ >>= _).run P w = _
        rw [bind_ok hse, bind_ok (run_sizeOf hn w)]
        simp only
        rw [bind_ok hva2]
        simp
  · simp at hc

theorem nth?_eq (l : List AV) (n : Nat) : nth? l n = l[n]? := by
  induction l generalizing n with
  | nil => rfl
  | cons a l ih =>
    cases n with
    | zero => rfl
    | succ n => show nth? l n = _; rw [ih]; rfl

theorem com_eq (k : IntKind) : BitVec.ofInt k.bits (if k.signed then -1 else k.max) = BitVec.allOnes k.bits := by
  cases k <;> decide

theorem assert_sound {x : Opd} {t : TypeId} {ok : Bool} {I : AI} (hc : cAssert P x t ok = some I) {tm : FT} {h : AH} {v : AV} (hv : I.pure.f tm h = some v) {X : Value}
    (hx : VR E m (opd x tm) X) (xT : TypeId) (w : World) : ∃ y, (Instr.typeAssert X xT t ok).run P w = .ok y w ∧ VR E m v y := by
  have pair : ∀ {a : AV} {y : Value} (b : Bool), VR E m a y → VR E m (.tup [a, .bool b]) (.tuple #[y, .bool b]) := by
    intro a y b hy
    refine .tup rfl (fun i c z h1 h2 => ?_)
    match i with
    | 0 => simp at h1 h2; subst h1; subst h2; exact hy
    | 1 => simp at h1 h2; subst h1; subst h2; exact .bool _
    | n + 2 => simp at h1
  unfold cAssert at hc
  split at hc <;> first | (simp at hc; done) | skip
  rename_i d hni hu
  split at hc
  · rename_i hok
    subst hok
    split at hc <;> first | (simp at hc; done) | skip
    rename_i z hz
    cases hc
    obtain ⟨i, zv, h1, h2, h3⟩ := zeroVal_sound hz
    have hzr := run_zeroValue (P := P) h1 h2 w
    have hzv := ofV_sound (E := E) (m := m) h3
    simp only [AI.pure, aassert] at hv
    split at hv <;> first | (simp at hv; done) | skip
    · rename_i hopd
      rw [hopd] at hx
      cases hx; cases hv
      refine ⟨_, ?_, pair false hzv⟩
      unfold Instr.typeAssert
      rw [bind_ok (run_underlying hu w)]
      cases d <;> first | exact (hni _ rfl).elim | (simp only [if_true]; rw [bind_ok hzr]; rfl)
    · rename_i t' a hopd
      rw [hopd] at hx
      cases hx with
      | iface hx =>
        rename_i y
        by_cases ht : t' = t
        · simp only [ht, eqN_eq, decide_true] at hv
          cases hv
          refine ⟨_, ?_, pair true hx⟩
          unfold Instr.typeAssert
          rw [bind_ok (run_underlying hu w)]
          cases d <;> first | exact (hni _ rfl).elim | (simp only [ht, if_true]; rfl)
        · simp only [ht, eqN_eq, decide_false] at hv
          cases hv
          refine ⟨_, ?_, pair false hzv⟩
          unfold Instr.typeAssert
          rw [bind_ok (run_underlying hu w)]
          cases d <;> first | exact (hni _ rfl).elim | (simp only [ht, if_true, if_false]; rw [bind_ok hzr]; rfl)
  · rename_i hok
    have hok : ok = false := by simpa using hok
    subst hok
    cases hc
    simp only [AI.pure, aassert] at hv
    split at hv <;> first | (simp at hv; done) | skip
    rename_i t' a hopd
    rw [hopd] at hx
    cases hx with
    | iface hx =>
      rename_i y
      by_cases ht : t' = t
      · simp only [ht, eqN_eq, decide_true] at hv
        cases hv
        refine ⟨_, ?_, hx⟩
        unfold Instr.typeAssert
        rw [bind_ok (run_underlying hu w)]
        cases d <;> first | exact (hni _ rfl).elim | (simp only [ht, if_true, Bool.false_eq_true, if_false]; rfl)
      · simp [ht] at hv

set_option maxHeartbeats 1000000 in
/-- the builtins that leave the heap as it is -/
theorem builtin_sound {b : Builtin} {ts : Array TypeId} {xs : List Opd} {I : AI} (hc : cBuiltin P b ts.toList xs = some I) (hact : I.act = false) {tm : FT} {h : AH} {v : AV}
    (hv : I.pure.f tm h = some v) {X : Array Value} (hx : LR E m (opds xs tm) X.toList) (ty : TypeId) (cs : Array Bool) (w : World) :
    ∃ y, (builtin b ts ty cs X).run P w = .ok (.value y) w ∧ VR E m v y := by
  have one : ∀ {x : Opd}, xs = [x] → ∃ y, X = #[y] ∧ VR E m (opd x tm) y := by
    rintro x rfl
    rw [opds_eq] at hx
    obtain ⟨y, ys, e, h1, h2⟩ := LR.cons_inv (by simpa using hx)
    have := h2.nil_inv
    subst this
    exact ⟨y, Array.toList_inj.1 (by simpa using e), h1⟩
  have two : ∀ {x x' : Opd}, xs = [x, x'] → ∃ y y', X = #[y, y'] ∧ VR E m (opd x tm) y ∧ VR E m (opd x' tm) y' := by
    rintro x x' rfl
    rw [opds_eq] at hx
    obtain ⟨y, ys, e, h1, h2⟩ := LR.cons_inv (by simpa using hx)
    obtain ⟨y', ys', e', h3, h4⟩ := LR.cons_inv h2
    have := h4.nil_inv
    subst this; subst e'
    exact ⟨y, y', Array.toList_inj.1 (by simpa using e), h1, h3⟩
  have oneT : ∀ {t : TypeId}, ts.toList = [t] → ts = #[t] := fun e => Array.toList_inj.1 (by simpa using e)
  unfold cBuiltin at hc
  split at hc <;> first | (simp at hc; done) | skip
  · -- len
    rename_i t x hts
    obtain rfl := oneT hts
    obtain ⟨y, rfl, hy⟩ := one rfl
    split at hc <;> first | (simp at hc; done) | skip
    · rename_i hu
      cases hc
      simp only [AI.pure, onStr] at hv
      split at hv <;> first | (simp at hv; done) | skip
      rename_i s hopd
      rw [hopd] at hy
      cases hy; cases hv
      refine ⟨_, exec_v (x := goInt s.length) ?_, by rw [lenL_eq]; exact .int _ _⟩
      simp only [Builtin.len_]
      exact bind_ok (run_underlying hu w)
    · rename_i e hu
      cases hc
      simp only [AI.pure, alenV] at hv
      split at hv <;> first | (simp at hv; done) | skip
      all_goals
        rename_i hopd
        rw [hopd] at hy
        cases hy; cases hv
        refine ⟨_, exec_v (x := goInt _) ?_, .int _ _⟩
        simp only [Builtin.len_]
        exact bind_ok (run_underlying hu w)
    · rename_i n e hu
      cases hc
      simp only [AI.pure] at hv
      cases hv
      refine ⟨_, exec_v (x := goInt n) ?_, .int _ _⟩
      simp only [Builtin.len_]
      refine Eq.trans (bind_ok (run_underlying hu w)) ?_
      cases y <;> rfl
  · -- cap
    rename_i t x hts
    obtain rfl := oneT hts
    obtain ⟨y, rfl, hy⟩ := one rfl
    split at hc <;> first | (simp at hc; done) | skip
    rename_i e hu
    cases hc
    simp only [AI.pure, acapV] at hv
    split at hv <;> first | (simp at hv; done) | skip
    · rename_i hopd
      rw [hopd] at hy
      cases hy with
      | slice hm hl hcap hxx hsz =>
        cases hv
        refine ⟨_, exec_v (x := goInt _) ?_, by rw [← hxx rfl]; exact .int _ _⟩
        simp only [Builtin.cap_]
        exact bind_ok (run_underlying hu w)
    · rename_i hopd
      rw [hopd] at hy
      cases hy; cases hv
      refine ⟨_, exec_v (x := goInt _) ?_, .int _ _⟩
      simp only [Builtin.cap_]
      exact bind_ok (run_underlying hu w)
  · -- max
    obtain ⟨y, y', rfl, hy, hy'⟩ := two rfl
    cases hc
    simp only [AI.pure, onInt, ifK] at hv
    split at hv <;> first | (simp at hv; done) | skip
    rename_i k a hopd
    split at hv <;> first | (simp at hv; done) | skip
    rename_i k' b hopd'
    split at hv <;> first | (simp at hv; done) | skip
    rename_i hk
    obtain rfl := sameK_iff.1 hk
    rw [hopd] at hy; rw [hopd'] at hy'
    cases hy; cases hy'
    refine ⟨.int k (if b > a then b else a), exec_v rfl, ?_⟩
    split at hv <;> cases hv
    · rename_i hlt
      have : a < b := by simpa using hlt
      rw [if_pos this]; exact .int _ _
    · rename_i hlt
      have : ¬ a < b := by simpa using hlt
      rw [if_neg this]; exact .int _ _
  · -- min
    obtain ⟨y, y', rfl, hy, hy'⟩ := two rfl
    cases hc
    simp only [AI.pure, onInt, ifK] at hv
    split at hv <;> first | (simp at hv; done) | skip
    rename_i k a hopd
    split at hv <;> first | (simp at hv; done) | skip
    rename_i k' b hopd'
    split at hv <;> first | (simp at hv; done) | skip
    rename_i hk
    obtain rfl := sameK_iff.1 hk
    rw [hopd] at hy; rw [hopd'] at hy'
    cases hy; cases hy'
    refine ⟨.int k (if b < a then b else a), exec_v rfl, ?_⟩
    split at hv <;> cases hv
    · rename_i hlt
      have : b < a := by simpa using hlt
      rw [if_pos this]; exact .int _ _
    · rename_i hlt
      have : ¬ b < a := by simpa using hlt
      rw [if_neg this]; exact .int _ _
  · -- the address of a slice's cells
    obtain ⟨y, rfl, hy⟩ := one rfl
    cases hc
    simp only [AI.pure, asdata] at hv
    split at hv <;> first | (simp at hv; done) | skip
    · rename_i hopd
      split at hv <;> first | (simp at hv; done) | skip
      rename_i hcz
      rw [eqN_eq] at hcz
      have hcz := of_decide_eq_false hcz
      cases hv
      rw [hopd] at hy
      cases hy with
      | slice hm hl hcap hxx hsz =>
        rename_i c cb
        refine ⟨_, exec_v (x := .pointer (some ⟨cb.blk, _, none⟩)) ?_, .ptr hm⟩
        have e : ∀ (A : Addr) (l c : Nat), Builtin.unsafeSliceData_ ts ty #[.slice (some A) l c] = if c ≠ 0 then pure (.pointer (some A)) else
            (do if (← viewAt A.block).isSome then pure (.pointer (some A)) else pure (.pointer (some ⟨← newObj (.view A (← elemOf ty)), 0, none⟩))) := fun _ _ _ => rfl
        rw [e, if_pos (by omega)]; rfl
    · rename_i hopd
      cases hv
      rw [hopd] at hy
      cases hy
      exact ⟨_, exec_v rfl, .nilp⟩
  · split at hc <;> first | (simp at hc; done) | skip
    split at hc <;> first | (simp at hc; done) | skip
    split at hc <;> first | (simp at hc; done) | skip
    split at hc <;> first | (simp at hc; done) | (cases hc; simp [AI.act] at hact; done)
  · split at hc <;> first | (simp at hc; done) | skip
    split at hc <;> first | (simp at hc; done) | (cases hc; simp [AI.act] at hact; done)
  · split at hc <;> first | (simp at hc; done) | skip
    split at hc <;> first | (simp at hc; done) | (cases hc; simp [AI.act] at hact; done)
  · split at hc <;> first | (simp at hc; done) | skip
    split at hc <;> first | (simp at hc; done) | (cases hc; simp [AI.act] at hact; done)
end
end Go.Ab
