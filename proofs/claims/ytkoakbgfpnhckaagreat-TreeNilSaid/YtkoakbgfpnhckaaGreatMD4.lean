/- A part of the proof layer, or functions of the given program in it: contracts and their proofs. -/
import Derived.Test.YtkoakbgfpnhckaaGreatR2
import Derived.Test.YtkoakbgfpnhckaaGreatMD1
namespace Go.V
open Go.Proofs
set_option maxRecDepth 100000
set_option linter.unusedSimpArgs false
set_option linter.unnecessarySimpa false
set_option linter.unusedVariables false
def pgH (mv : Bool) (fr : Int) (T : List (Int × List Int)) (F : List (Int × Bool)) (bl : List ByT.den) (lg : List LgT.den) (f : Int) (dn : Bool) : List SB :=
  [.struct [.ptr 1 0, .int .i64 fr, .mp 4, .mp 5], .struct [.own 2, .own 3, .int .i64 f, .bool dn], .row mv 24 (.sl 1 .byte) bl, .row mv 32 (.pair (.int .i64) (.sl 1 .byte)) lg,
   .map false (.int .i64) (.sl 8 (.int .i64)) T, .map false (.int .i64) .bool F]
def onPg (hp : List SB) (k : Int → List (Int × List Int) → List (Int × Bool) → List ByT.den → List LgT.den → Int → Bool → Prop) : Prop := ∃ fr T F bl lg f dn, hp = pgH false fr T F bl lg f dn ∧ k fr T F bl lg f dn
@[go_sem] theorem onPg_eq {fr T F bl lg f dn k} : onPg [.struct [.ptr 1 0, .int .i64 fr, .mp 4, .mp 5], .struct [.own 2, .own 3, .int .i64 f, .bool dn], .row false 24 (.sl 1 .byte) bl, .row false 32 (.pair (.int .i64) (.sl 1 .byte)) lg,
   .map false (.int .i64) (.sl 8 (.int .i64)) T, .map false (.int .i64) .bool F] k = k fr T F bl lg f dn := by
  apply propext; constructor
  · rintro ⟨fr', T', F', bl', lg', f', dn', h, hk⟩
    unfold pgH at h
    cases h
    exact hk
  · exact fun h => ⟨fr, T, F, bl, lg, f, dn, rfl, h⟩
def lkT' (T : List (Int × List Int)) (n : Int) : Option (List Int) := lookM (.int .i64) (.sl 8 (.int .i64)) T n
def addF (F : List (Int × Bool)) (bs : List Int) : List (Int × Bool) := bs.foldl (fun F b => updM (.int .i64) .bool F b true) F
theorem updM_le {kt vt : Ty} (m : List (kt.den × vt.den)) (k : kt.den) (v : vt.den) : (updM kt vt m k v).length ≤ m.length + 1 := by
 induction m with
 | nil => simp [updM]
 | cons x r ih =>
  simp only [updM]
  cases kt.beq x.1 k
  ·simp only [cond_false, List.length_cons]; omega
  ·simp
theorem addF_length (bs : List Int) : ∀ F, (addF F bs).length ≤ F.length + bs.length := by
 induction bs with
 | nil => intro F; exact Nat.le_refl _
 | cons b r ih =>
  intro F
  have h1 := ih (updM (.int .i64) .bool F b true)
  have h2 := updM_le (kt := .int .i64) (vt := .bool) F b true
  show (addF (updM (.int .i64) .bool F b true) r).length ≤ _
  simp only [List.length_cons]
  omega
theorem addF_snoc (F : List (Int × Bool)) (bs : List Int) (b : Int) : addF F (bs ++ [b]) = updM (.int .i64) .bool (addF F bs) b true := by
 unfold addF; rw [List.foldl_append]; rfl
def opB (bl : List ByT.den) (n : Int) : Option (List UInt8) := openF 80 n.toNat (elt ByT bl n.toNat)
def pl4 (bl : List ByT.den) (n : Int) : List UInt8 := ((opB bl n).getD []).drop 4
def rdOk (bl : List ByT.den) (n : Int) : Prop := (0 ≤ n ∧ n < bl.length ∧ n ≤ 4294967295) ∧ ∃ p, opB bl n = some p ∧ 4 ≤ p.length
theorem openF_nil {kd pl} : openF kd pl [] = none := by unfold openF; rw [if_neg (by simp)]
theorem openF_length {kd pl blk p} (h : openF kd pl blk = some p) : p.length ≤ 242 := by
 unfold openF at h
 split at h
 ·rename_i h1
  split at h
  ·cases h
   rw [List.length_take]; omega
  ·cases h
 ·cases h
theorem wu32 {n : Int} (h : 0 ≤ n ∧ n ≤ 4294967295) : IntKind.u32.wrap n = n := wrap_in (by simp [inR, IntKind.min, IntKind.max, IntKind.signed, IntKind.bits]; omega)
def A14 (fr : Int) (T : List (Int × List Int)) (F : List (Int × Bool)) (bl : List ByT.den) (lg : List LgT.den) (f : Int) (dn : Bool) (bs : List Int) : LoopAnn :=
 cntA (fun i => ⟨[(0, .ptr 0 0), (8, .own 6), (28, .sl true 8 (.int .i64) bs), (29, .int .i64 bs.length), (30, .int .i64 i)], pgH false fr T F bl lg f dn ++ [.row true 1 .byte ((bs.take i).flatMap (pl4 bl))]⟩) bs.length
theorem pl4_length (bl : List ByT.den) (bs : List Int) : (bs.flatMap (pl4 bl)).length ≤ 242 * bs.length := by
 induction bs with
 | nil => simp
 | cons b r ih =>
  rw [List.flatMap_cons, List.length_append, List.length_cons]
  have : (pl4 bl b).length ≤ 242 := by
   unfold pl4
   cases h : opB bl b with
   | none => simp
   | some p => have := openF_length h; simp; omega
  omega
def C34 : Contract := fun args hp K => match args with
 | [.nilp, .int .i64 n] => hp = [] ∧ K (.tup [.own 0, .int .i64 1]) [.row true 1 .byte []]
 | [.ptr 0 0, .int .i64 n] => onPg hp fun fr T F bl lg f dn => (lkT' T n = none → K (.tup [.own 6, .int .i64 5]) (pgH false fr T F bl lg f dn ++ [.row true 1 .byte []])) ∧
   (∀ bs, lkT' T n = some bs → (dn = false ∧ bs.length ≤ 1000000 ∧ ∀ b ∈ bs, rdOk bl b) ∧ K (.tup [.own 6, .int .i64 0]) (pgH false fr T F bl lg f dn ++ [.row true 1 .byte (bs.flatMap (pl4 bl))]))
 | _ => False
theorem s34 : Sound Tryz.prog 34 C34 := by
 refine sound_of_okF ok34 (.cons s57 (callable_of_okF ok57) (.cons s58 (callable_of_okF ok58) .nil)) ?_
 intro args hp K h
 unfold C34 at h
 split at h
 ·obtain ⟨rfl, h⟩ := h
  refine ⟨by simp, [], ?_⟩
  simp (maxSteps:=9^9) only [a34, r34, go_sem, Int.reduceLT, Int.reduceLE, Int.reduceEq, Int.reduceNe, Int.reduceAdd, Int.reduceSub, Int.reduceMul, Int.reduceToNat, Int.reduceNeg, Nat.reduceEqDiff, Nat.reduceLeDiff, Nat.reduceSub, Nat.reduceMul, Nat.reduceLT, Nat.reduceBEq, Nat.reduceAdd, Nat.reduceDiv, Nat.reduceMod]
  exact h
 ·rename_i n
  obtain ⟨fr, T, F, bl, lg, f, dn, rfl, h1, h2⟩ := h
  refine ⟨by simp, [(1, A14 fr T F bl lg f dn ((lkT' T n).getD []))], ?_⟩
  unfold pgH at h1 h2 ⊢
  simp (maxSteps:=9^9) only [a34, r34, go_sem, Int.reduceLT, Int.reduceLE, Int.reduceEq, Int.reduceNe, Int.reduceAdd, Int.reduceSub, Int.reduceMul, Int.reduceToNat, Int.reduceNeg, Nat.reduceEqDiff, Nat.reduceLeDiff, Nat.reduceSub, Nat.reduceMul, Nat.reduceLT, Nat.reduceBEq, Nat.reduceAdd, Nat.reduceDiv, Nat.reduceMod]
  intro y b hy hb
  cases hl : lkT' T n with
  | none =>
   have hl' : lookM (.int .i64) (.sl 8 (.int .i64)) T n = none := hl
   rw [hl'] at hy hb
   subst hb
   exact sw_intro (fun e => by cases e) (fun e => h1 hl)
  | some bs =>
   have hl' : lookM (.int .i64) (.sl 8 (.int .i64)) T n = some bs := hl
   rw [hl'] at hy hb
   simp only [Option.getD_some, Option.isSome_some] at hy hb ⊢
   subst hy hb
   refine sw_intro (fun e => ?_) (fun e => by cases e)
   obtain ⟨⟨hd, hbl, hok⟩, h⟩ := h2 y hl
   rintro _ _ m rfl
   refine loop_intro (A := A14 fr T F bl lg f dn y) (0 : Nat) ?_ (Nat.zero_le _) ?_
   ·simp (maxSteps:=9^9) only [A14, cntA_I, pgH, go_sem, Int.reduceLT, Int.reduceLE, Int.reduceEq, Int.reduceNe, Int.reduceAdd, Int.reduceSub, Int.reduceMul, Int.reduceToNat, Int.reduceNeg, Nat.reduceEqDiff, Nat.reduceLeDiff, Nat.reduceSub, Nat.reduceMul, Nat.reduceLT, Nat.reduceBEq, Nat.reduceAdd, Nat.reduceDiv, Nat.reduceMod]
    rfl
   ·intro (i : Nat) (hi : i ≤ y.length)
    simp (maxSteps:=9^9) only [A14, cntA_I, pgH, C57, C58, dkH, go_sem, Int.reduceLT, Int.reduceLE, Int.reduceEq, Int.reduceNe, Int.reduceAdd, Int.reduceSub, Int.reduceMul, Int.reduceToNat, Int.reduceNeg, Nat.reduceEqDiff, Nat.reduceLeDiff, Nat.reduceSub, Nat.reduceMul, Nat.reduceLT, Nat.reduceBEq, Nat.reduceAdd, Nat.reduceDiv, Nat.reduceMod]
    refine swd (fun hlt => ?_) (fun hge => ?_)
    ·have hmx := maxLen_val
     obtain ⟨⟨ha0, ha1, ha2⟩, p, hp, hp4⟩ := hok _ (List.mem_of_getElem? (elt_get (t := .int .i64) hlt))
     have hp' : openF (UInt8.ofNat 80) (Int.toNat (elt (.int .i64) y i)) (elt ByT bl (Int.toNat (elt (.int .i64) y i))) = some p := hp
     have hpl := openF_length hp'
     refine nd_intro hlt (And.intro (fun e => by rw [hd] at e; cases e) (fun _ => And.intro ⟨ha0, ha1⟩ (And.intro ?_ ?_)))
     ·rintro _ m hm
      rw [wu32 ⟨ha0, ha2⟩] at hm
      subst hm
      rw [hp']
      simp only [Option.getD_some, Option.isSome_some]
      refine And.intro rfl (And.intro ⟨ha0, ha2⟩ (sw_intro (fun _ => ?_) (fun e => by cases e)))
      rintro _ _ m rfl
      refine swd (fun e => by omega) (fun _ => ?_)
      have hfm := pl4_length bl (y.take i)
      rw [List.length_take] at hfm
      have htk : List.take (p.length - 4) (List.drop 4 p) = p.drop 4 := List.take_of_length_le (by rw [List.length_drop]; exact Nat.le_refl _)
      have hdl : (p.drop 4).length ≤ 242 := by rw [List.length_drop]; omega
      rw [htk]
      refine nd_intro (by omega) (And.intro (fun _ _ => by omega) (fun _ => ?_))
      rintro _ _ m hm2
      rw [w64 (by omega)] at hm2
      subst hm2
      refine cntA_next hlt ?_
      simp (maxSteps:=9^9) only [go_sem, Int.reduceLT, Int.reduceLE, Int.reduceEq, Int.reduceNe, Int.reduceAdd, Int.reduceSub, Int.reduceMul, Int.reduceToNat, Int.reduceNeg, Nat.reduceEqDiff, Nat.reduceLeDiff, Nat.reduceSub, Nat.reduceMul, Nat.reduceLT, Nat.reduceBEq, Nat.reduceAdd, Nat.reduceDiv, Nat.reduceMod]
      have e1 : p.drop 4 = pl4 bl (elt (.int .i64) y i) := by unfold pl4; rw [hp]; rfl
      rw [e1, ← take_elt (t := .int .i64) hlt, List.flatMap_append]
      simp only [List.flatMap_cons, List.flatMap_nil, List.append_nil]
      rfl
     ·intro e
      rw [e, openF_nil] at hp'
      cases hp'
    ·have : i = y.length := by omega
     subst this
     rw [List.take_length]
     exact h
 ·exact h.elim
end Go.V
namespace Go.V
open Go.Proofs
set_option maxRecDepth 100000
set_option linter.unusedSimpArgs false
set_option linter.unnecessarySimpa false
set_option linter.unusedVariables false
theorem sealF_8 {kd : UInt8} {pl : Nat} {p : List UInt8} : (sealF kd pl p)[8]? = some kd := by
 unfold sealF sBody
 rw [List.getElem?_append_right (by rw [bytesB_length]; exact Nat.le_refl _), bytesB_length]
 rfl
theorem openF_zero {kd : UInt8} {pl : Nat} (h : kd ≠ 0) : openF kd pl (List.replicate 256 0) = none := by
 unfold openF
 split
 ·split
  ·rename_i h1
   have h2 := congrArg (fun l => l[8]?) h1
   simp only [sealF_8] at h2
   rw [show (List.replicate 256 (0 : UInt8))[8]? = some 0 from rfl] at h2
   exact (h (Option.some.inj h2)).elim
  ·rfl
 ·rfl
def nextF (p : List UInt8) : Int := ((elt .byte p 1).toNat + 256 * (elt .byte p 2).toNat + 65536 * (elt .byte p 3).toNat : Nat)
def textF (bl : List ByT.den) (fr ct name : Int) : Nat → Int → List UInt8 → List Int → Option (List UInt8 × List Int)
 | 0, _, _, _ => none
 | n + 1, a, text, bs =>
  if a < fr ∨ fr + ct ≤ a ∨ bs.length = 85 then none else
   match opB bl a with
   | none => none
   | some p => if p.length < 4 ∨ ¬ ((elt .byte p 0 = 1) ↔ a = name) then none else
     if nextF p = 0 then some (text ++ p.drop 4, bs ++ [a]) else
      if nextF p - 1 ∈ bs ++ [a] then none else textF bl fr ct name n (nextF p - 1) (text ++ p.drop 4) (bs ++ [a])
theorem or_low {a b i : Nat} (ha : a < 2 ^ i) (hb : 2 ^ i * b + a < 9223372036854775808) : bitsI .or .i64 (a : Int) ((2 ^ i * b : Nat) : Int) = ((2 ^ i * b + a : Nat) : Int) := by
 have h1 : (BitVec.ofInt 64 (a : Int)).toNat = a := by
  rw [BitVec.toNat_ofInt]; omega
 have h2 : (BitVec.ofInt 64 ((2 ^ i * b : Nat) : Int)).toNat = 2 ^ i * b := by
  rw [BitVec.toNat_ofInt]; omega
 have e : bitsI .or .i64 (a : Int) ((2 ^ i * b : Nat) : Int) = IntKind.i64.wrap ((BitVec.ofInt 64 (a : Int) ||| BitVec.ofInt 64 ((2 ^ i * b : Nat) : Int)).toNat : Int) := rfl
 rw [e, BitVec.toNat_or, h1, h2, Nat.or_comm, ← Nat.two_pow_add_eq_or_of_lt ha, w64 (by omega)]
structure G28 where
 text : List UInt8
 bs : List Int
 a : Int
def A28 (bl : List ByT.den) (lg : List LgT.den) (f : Int) (dn : Bool) (fr ct name : Int) : LoopAnn := {
 G := G28
 I := fun g => ⟨[(0, .ptr 0 0), (1, .int .i64 fr), (2, .int .i64 ct), (3, .int .i64 name), (11, .own 3), (12, .own 4), (13, .int .i64 g.a)], dkH false bl lg f dn ++ [.row true 1 .byte g.text, .row true 8 (.int .i64) g.bs]⟩
 R := fun _ g => textF bl fr ct name (86 - g.bs.length) g.a g.text g.bs = textF bl fr ct name 86 name [] [] ∧ g.bs.length ≤ 85 ∧ g.text.length ≤ 242 * g.bs.length
 μ := fun g => 86 - g.bs.length }
theorem I28 (bl lg f dn fr ct name) (g : G28) : (A28 bl lg f dn fr ct name).I g = ⟨[(0, .ptr 0 0), (1, .int .i64 fr), (2, .int .i64 ct), (3, .int .i64 name), (11, .own 3), (12, .own 4), (13, .int .i64 g.a)], dkH false bl lg f dn ++ [.row true 1 .byte g.text, .row true 8 (.int .i64) g.bs]⟩ := rfl
def C32 : Contract := fun args hp K => match args with
 | [.ptr 0 0, .int .i64 fr, .int .i64 ct, .int .i64 name] => onDk hp fun bl lg f dn => (dn = false ∧ 0 ≤ fr ∧ 0 ≤ ct ∧ fr + ct ≤ bl.length ∧ bl.length ≤ 65536) ∧
   (∀ t bs, textF bl fr ct name 86 name [] [] = some (t, bs) → K (.tup [.own 3, .own 4, .int .i64 0]) (dkH false bl lg f dn ++ [.row true 1 .byte t, .row true 8 (.int .i64) bs])) ∧
   (textF bl fr ct name 86 name [] [] = none → K (.tup [.own 3, .own 4, .int .i64 2]) (dkH false bl lg f dn ++ [.row true 1 .byte [], .row true 8 (.int .i64) []]))
 | _ => False
theorem s32 : Sound Tryz.prog 32 C32 := by
  refine sound_of_okF ok32 (.cons s57 (callable_of_okF ok57) (.cons s58 (callable_of_okF ok58) (.cons s59 (callable_of_okF ok59) .nil))) ?_
  intro args hp K h
  unfold C32 at h
  split at h
  · rename_i fr ct name
    obtain ⟨bl, lg, f, dn, rfl, ⟨hd, hfr, hct, hft, hbl⟩, h1, h2⟩ := h
    refine ⟨by simp, [(1, A28 bl lg f dn fr ct name)], ?_⟩
    unfold dkH at h1 h2 ⊢
    simp (maxSteps:=9^9) only [a32, r32, go_sem, Int.reduceLT, Int.reduceLE, Int.reduceEq, Int.reduceNe, Int.reduceAdd, Int.reduceSub, Int.reduceMul, Int.reduceToNat, Int.reduceNeg, Nat.reduceEqDiff, Nat.reduceLeDiff, Nat.reduceSub, Nat.reduceMul, Nat.reduceLT, Nat.reduceBEq, Nat.reduceAdd, Nat.reduceDiv, Nat.reduceMod]
    refine loop_intro (A := A28 bl lg f dn fr ct name) (⟨[], [], name⟩ : G28) ?_ ⟨rfl, Nat.zero_le _, Nat.zero_le _⟩ ?_
    · simp (maxSteps:=9^9) only [I28, dkH, go_sem, Int.reduceLT, Int.reduceLE, Int.reduceEq, Int.reduceNe, Int.reduceAdd, Int.reduceSub, Int.reduceMul, Int.reduceToNat, Int.reduceNeg, Nat.reduceEqDiff, Nat.reduceLeDiff, Nat.reduceSub, Nat.reduceMul, Nat.reduceLT, Nat.reduceBEq, Nat.reduceAdd, Nat.reduceDiv, Nat.reduceMod]
    · rintro (g : G28) ⟨hr, hl, ht⟩
      change textF bl fr ct name (86 - g.bs.length) g.a g.text g.bs = _ at hr
      change g.bs.length ≤ 85 at hl
      have hmx := maxLen_val
      obtain ⟨n, hn⟩ : ∃ n, 86 - g.bs.length = n + 1 := ⟨85 - g.bs.length, by omega⟩
      rw [hn] at hr
      have none' := fun e => h2 (hr.symm.trans e)
      simp (maxSteps:=9^9) only [I28, dkH, C57, C58, C59, go_sem, Int.reduceLT, Int.reduceLE, Int.reduceEq, Int.reduceNe, Int.reduceAdd, Int.reduceSub, Int.reduceMul, Int.reduceToNat, Int.reduceNeg, Nat.reduceEqDiff, Nat.reduceLeDiff, Nat.reduceSub, Nat.reduceMul, Nat.reduceLT, Nat.reduceBEq, Nat.reduceAdd, Nat.reduceDiv, Nat.reduceMod]
      refine swd (fun e => none' (by rw [textF, if_pos (.inl e)])) (fun e1 => ?_)
      rintro _ _ m hm
      rw [w64 (by omega)] at hm
      subst hm
      refine swd (fun e => none' (by rw [textF, if_pos (.inr (.inl e))])) (fun e2 => ?_)
      rintro _ _ m rfl
      refine swd (fun e => none' (by rw [textF, if_pos (.inr (.inr (by omega)))])) (fun e3 => ?_)
      have hstep := textF.eq_2 bl fr ct name g.a g.text g.bs n
      rw [if_neg (by omega)] at hstep
      refine And.intro (fun e => by rw [hd] at e; cases e) (fun _ => And.intro (by omega) (And.intro ?_ ?_))
      · rintro _ m hm
        rw [wu32 (by omega)] at hm
        subst hm
        refine And.intro rfl (And.intro (by omega) ?_)
        have hop : opB bl g.a = openF (UInt8.ofNat 80) g.a.toNat (elt ByT bl g.a.toNat) := rfl
        rw [← hop]
        cases hp : opB bl g.a with
        | none =>
          rw [hp] at hstep
          exact sw_intro (fun e => by cases e) (fun _ => none' hstep)
        | some p =>
          rw [hp] at hstep
          simp only [Option.getD_some, Option.isSome_some] at hstep ⊢
          refine sw_intro (fun _ => ?_) (fun e => by cases e)
          rintro _ _ m rfl
          have hpl : p.length ≤ 242 := openF_length hp
          refine swd (fun e => none' (by rw [hstep, if_pos (.inl (by omega))])) (fun e4 => ?_)
          refine nd_intro (by omega) ?_
          rintro c1 hc1 c2 hc2 c3 hc3
          have hiff : c3 = true ↔ ¬ ((elt .byte p 0 = 1) ↔ g.a = name) := by
            have h81 : ((UInt8.toNat (elt .byte p 0) : Int) = 1) ↔ elt .byte p 0 = 1 := by
              rw [← UInt8.toNat_inj]
              simp
              omega
            rw [hc3, hc1, hc2]
            by_cases q1 : (elt .byte p 0 = 1) <;> by_cases q2 : g.a = name <;> simp [h81, q1, q2]
          refine sw_intro (fun e => none' (by rw [hstep, if_pos (.inr (hiff.1 e))])) (fun e => ?_)
          have e5 : ¬ (p.length < 4 ∨ ¬ ((elt .byte p 0 = 1) ↔ g.a = name)) := by
            rintro (q | q)
            · omega
            · rw [hiff.2 q] at e; cases e
          rw [if_neg e5] at hstep
          clear hiff hc1 hc2 hc3
          have htk : List.take (p.length - 4) (List.drop 4 p) = p.drop 4 := List.take_of_length_le (by rw [List.length_drop]; exact Nat.le_refl _)
          have hdl : (p.drop 4).length ≤ 242 := by rw [List.length_drop]; omega
          rw [htk]
          refine nd_intro (by omega) (And.intro (fun _ _ => by omega) (fun _ => And.intro (fun _ => by omega) (fun _ => nd_intro (by omega) (nd_intro (by omega) ?_))))
          have h1b := UInt8.toNat_lt (elt .byte p 1)
          have h2b := UInt8.toNat_lt (elt .byte p 2)
          have h3b := UInt8.toNat_lt (elt .byte p 3)
          rintro _ m hm
          rw [w64 (by omega)] at hm
          subst hm
          refine nd_intro (by omega) (nd_intro (by omega) ?_)
          rintro _ m hm
          rw [w64 (by omega)] at hm
          subst hm
          rintro _ _ m2 hm2 _ _ m3 hm3
          refine nd_intro (by omega) (nd_intro (by omega) ?_)
          rintro _ m hm
          rw [w64 (by omega)] at hm
          subst hm
          rintro _ _ m4 hm4 _ _ m5 hm5
          have q2 : m2 = ((2 ^ 8 * (elt .byte p 2).toNat : Nat) : Int) := by
            rw [hm2, w64 (by rw [show ((2 : Int) ^ min 8 64) = 256 from rfl]; omega)]
            rw [show ((2 : Int) ^ min 8 64) = 256 from rfl]; omega
          have q3 : m3 = ((2 ^ 8 * (elt .byte p 2).toNat + (elt .byte p 1).toNat : Nat) : Int) := by
            rw [hm3, q2]; exact or_low (by omega) (by omega)
          have q4 : m4 = ((2 ^ 16 * (elt .byte p 3).toNat : Nat) : Int) := by
            rw [hm4, w64 (by rw [show ((2 : Int) ^ min 16 64) = 65536 from rfl]; omega)]
            rw [show ((2 : Int) ^ min 16 64) = 65536 from rfl]; omega
          have q5 : m5 = nextF p := by
            rw [hm5, q3, q4, or_low (by omega) (by omega)]
            unfold nextF; omega
          clear hm2 hm3 hm4 hm5
          subst q5
          refine swd (fun e => h1 _ _ (hr.symm.trans (by rw [hstep, if_pos e]))) (fun e6 => ?_)
          rw [if_neg e6] at hstep
          rintro _ _ m hm
          have hnx : 0 ≤ nextF p ∧ nextF p < 16777216 := by unfold nextF; omega
          rw [w64 (by omega)] at hm
          subst hm
          refine And.intro rfl (sw_intro (fun e => none' (by rw [hstep, if_pos (of_decide_eq_true e)])) (fun e => ?_))
          rw [if_neg (of_decide_eq_false e)] at hstep
          refine lpE_intro (A := A28 bl lg f dn fr ct name) (⟨g.text ++ p.drop 4, g.bs ++ [g.a], nextF p - 1⟩ : G28) ?_ ⟨?_, ?_, ?_⟩ ?_
          · simp (maxSteps:=9^9) only [I28, dkH, go_sem, Int.reduceLT, Int.reduceLE, Int.reduceEq, Int.reduceNe, Int.reduceAdd, Int.reduceSub, Int.reduceMul, Int.reduceToNat, Int.reduceNeg, Nat.reduceEqDiff, Nat.reduceLeDiff, Nat.reduceSub, Nat.reduceMul, Nat.reduceLT, Nat.reduceBEq, Nat.reduceAdd, Nat.reduceDiv, Nat.reduceMod]
          · show textF bl fr ct name (86 - (g.bs ++ [g.a]).length) (nextF p - 1) (g.text ++ p.drop 4) (g.bs ++ [g.a]) = _
            rw [List.length_append, List.length_singleton, show 86 - (g.bs.length + 1) = n by omega]
            exact hstep.symm.trans hr
          · show (g.bs ++ [g.a]).length ≤ 85
            rw [List.length_append, List.length_singleton]; omega
          · show (g.text ++ p.drop 4).length ≤ 242 * (g.bs ++ [g.a]).length
            rw [List.length_append, List.length_append, List.length_singleton]; omega
          · show 86 - (g.bs ++ [g.a]).length < 86 - g.bs.length
            rw [List.length_append, List.length_singleton]; omega
      · intro e
        rintro _ m hm
        rw [wu32 (by omega)] at hm
        subst hm
        have hop : opB bl g.a = openF (UInt8.ofNat 80) g.a.toNat (elt ByT bl g.a.toNat) := rfl
        rw [e, openF_nil] at hop
        rw [hop] at hstep
        refine And.intro rfl (And.intro (by omega) ?_)
        rw [openF_zero (by decide)]
        exact sw_intro (fun e => by cases e) (fun _ => none' hstep)
  · exact h.elim
end Go.V
namespace Go.V
open Go.Proofs
set_option maxRecDepth 100000
set_option linter.unusedSimpArgs false
set_option linter.unnecessarySimpa false
set_option linter.unusedVariables false
def lkB (F : List (Int × Bool)) (b : Int) : Bool := (lookM (.int .i64) .bool F b).getD false
def takeBs : List Int → List (Int × Bool) → Option (List (Int × Bool))
 | [], F => some F
 | b :: r, F => if lkB F b = true then takeBs r (delM (.int .i64) .bool F b) else none
def updT (T : List (Int × List Int)) (n : Int) (bs : List Int) : List (Int × List Int) := updM (.int .i64) (.sl 8 (.int .i64)) T n bs
def openL (bl : List ByT.den) (fr ct : Int) : List Int → List (Int × List Int) → List (Int × Bool) → Option (List (Int × List Int) × List (Int × Bool))
 | [], T, F => some (T, F)
 | n :: r, T, F => match textF bl fr ct n 86 n [] [] with
  | none => none
  | some (_, bs) => match takeBs bs F with
   | none => none
   | some F' => openL bl fr ct r (updT T n bs) F'
def areaL (fr ct : Int) (n : Nat) : List Int := (List.range n).map fun i : Nat => fr + (i : Int)
def initF (fr ct : Int) : List (Int × Bool) := addF [] (areaL fr ct ct.toNat)
def pgN (fr : Int) (T : List (Int × List Int)) (F : List (Int × Bool)) : List SB := [.struct [.ptr 0 0, .int .i64 fr, .mp 4, .mp 5], .map false (.int .i64) (.sl 8 (.int .i64)) T, .map false (.int .i64) .bool F]
def A10 (bl : List ByT.den) (lg : List LgT.den) (f : Int) (dn : Bool) (fr ct : Int) (p : Bool) (ns : List Int) : LoopAnn :=
 cntA (fun i => ⟨[(0, .ptr 0 0), (1, .int .i64 fr), (2, .int .i64 ct), (3, .sl p 8 (.int .i64) ns), (10, .ptr 3 0), (30, .int .i64 ct), (31, .int .i64 i)], dkH false bl lg f dn ++ pgN fr [] (addF [] (areaL fr ct i))⟩) ct.toNat
theorem areaL_snoc (fr ct : Int) (i : Nat) : areaL fr ct (i + 1) = areaL fr ct i ++ [fr + (i : Int)] := by
 unfold areaL; rw [List.range_succ, List.map_append]; rfl
theorem areaL_length (fr ct : Int) (i : Nat) : (areaL fr ct i).length = i := by simp [areaL]
theorem drop_elt {t : Ty} {xs : List t.den} {i : Nat} (h : i < xs.length) : xs.drop i = elt t xs i :: xs.drop (i + 1) := by
 rw [List.drop_eq_getElem_cons h]
 have := elt_get (t := t) h
 rw [List.getElem?_eq_getElem h] at this
 rw [Option.some.inj this]
structure G10 where
 i : Nat
 T : List (Int × List Int)
 F : List (Int × Bool)
def B10 (bl : List ByT.den) (lg : List LgT.den) (f : Int) (dn : Bool) (fr ct : Int) (p : Bool) (ns : List Int) : LoopAnn := {
 G := G10
 I := fun g => ⟨[(0, .ptr 0 0), (1, .int .i64 fr), (2, .int .i64 ct), (10, .ptr 3 0), (44, .sl p 8 (.int .i64) ns), (45, .int .i64 ns.length), (46, .int .i64 g.i)], dkH false bl lg f dn ++ pgN fr g.T g.F⟩
 R := fun _ g => openL bl fr ct (ns.drop g.i) g.T g.F = openL bl fr ct ns [] (initF fr ct) ∧ g.i ≤ ns.length ∧ g.T.length ≤ g.i
 μ := fun g => ns.length - g.i }
theorem J10 (bl lg f dn fr ct p ns) (g : G10) : (B10 bl lg f dn fr ct p ns).I g = ⟨[(0, .ptr 0 0), (1, .int .i64 fr), (2, .int .i64 ct), (10, .ptr 3 0), (44, .sl p 8 (.int .i64) ns), (45, .int .i64 ns.length), (46, .int .i64 g.i)], dkH false bl lg f dn ++ pgN fr g.T g.F⟩ := rfl
structure H10 where
 i : Nat
 T : List (Int × List Int)
 F : List (Int × Bool)
 n : Int
 bs : List Int
 k : Nat
def D10 (bl : List ByT.den) (lg : List LgT.den) (f : Int) (dn : Bool) (fr ct : Int) (p : Bool) (ns : List Int) : LoopAnn := {
 G := H10
 I := fun g => ⟨[(0, .ptr 0 0), (1, .int .i64 fr), (2, .int .i64 ct), (10, .ptr 3 0), (13, .int .i64 g.n), (15, .own 6), (44, .sl p 8 (.int .i64) ns), (45, .int .i64 ns.length), (46, .int .i64 g.i), (62, .own 6), (63, .int .i64 g.bs.length), (64, .int .i64 g.k)],
  dkH false bl lg f dn ++ pgN fr g.T g.F ++ [.row true 8 (.int .i64) g.bs]⟩
 R := fun g0 g => takeBs (g.bs.drop g.k) g.F = takeBs g0.bs g0.F ∧ g.k ≤ g.bs.length ∧ g.i = g0.i ∧ g.T = g0.T ∧ g.n = g0.n ∧ g.bs = g0.bs
 μ := fun g => g.bs.length - g.k }
theorem K10 (bl lg f dn fr ct p ns) (g : H10) : (D10 bl lg f dn fr ct p ns).I g = ⟨[(0, .ptr 0 0), (1, .int .i64 fr), (2, .int .i64 ct), (10, .ptr 3 0), (13, .int .i64 g.n), (15, .own 6), (44, .sl p 8 (.int .i64) ns), (45, .int .i64 ns.length), (46, .int .i64 g.i), (62, .own 6), (63, .int .i64 g.bs.length), (64, .int .i64 g.k)],
  dkH false bl lg f dn ++ pgN fr g.T g.F ++ [.row true 8 (.int .i64) g.bs]⟩ := rfl
def C12 : Contract := fun args hp K => match args with
  | [.nilp, .int .i64 fr, .int .i64 ct, x] => hp = [] ∧ onI x fun ns => K (.tup [.nilp, .int .i64 1]) []
  | [.ptr 0 0, .int .i64 fr, .int .i64 ct, x] => onDk hp fun bl lg f dn => onI x fun ns => (dn = false ∧ bl.length ≤ 65536 ∧ ns.length ≤ 1000000) ∧
      (¬ (1 ≤ ct ∧ 0 ≤ fr ∧ fr ≤ bl.length ∧ ct ≤ bl.length - fr) → K (.tup [.nilp, .int .i64 1]) (dkH false bl lg f dn)) ∧
      ((1 ≤ ct ∧ 0 ≤ fr ∧ fr ≤ bl.length ∧ ct ≤ bl.length - fr) → (∀ T F, openL bl fr ct ns [] (initF fr ct) = some (T, F) → K (.tup [.ptr 3 0, .int .i64 0]) (dkH false bl lg f dn ++ pgN fr T F)) ∧
        (openL bl fr ct ns [] (initF fr ct) = none → K (.tup [.nilp, .int .i64 2]) (dkH false bl lg f dn)))
  | _ => False
theorem s12 : Sound Tryz.prog 12 C12 := by
  refine sound_of_okF ok12 (.cons s31 (callable_of_okF ok31) (.cons s23 (callable_of_okF ok23) (.cons s32 (callable_of_okF ok32) .nil))) ?_
  intro args hp K h
  unfold C12 at h
  split at h
  · rename_i fr ct x
    obtain ⟨rfl, p, ns, rfl, h⟩ := h
    refine ⟨by simp, [], ?_⟩
    simp (maxSteps:=9^9) only [a12, r12, C31, go_sem, Int.reduceLT, Int.reduceLE, Int.reduceEq, Int.reduceNe, Int.reduceAdd, Int.reduceSub, Int.reduceMul, Int.reduceToNat, Int.reduceNeg, Nat.reduceEqDiff, Nat.reduceLeDiff, Nat.reduceSub, Nat.reduceMul, Nat.reduceLT, Nat.reduceBEq, Nat.reduceAdd, Nat.reduceDiv, Nat.reduceMod]
    exact h
  · rename_i fr ct x
    obtain ⟨bl, lg, f, dn, rfl, p, ns, rfl, ⟨hd, hbl, hns⟩, h1, h2⟩ := h
    refine ⟨by simp, [(1, A10 bl lg f dn fr ct p ns), (2, B10 bl lg f dn fr ct p ns), (3, D10 bl lg f dn fr ct p ns)], ?_⟩
    unfold dkH at h1 h2 ⊢
    simp (maxSteps:=9^9) only [a12, r12, C31, dkH, go_sem, Int.reduceLT, Int.reduceLE, Int.reduceEq, Int.reduceNe, Int.reduceAdd, Int.reduceSub, Int.reduceMul, Int.reduceToNat, Int.reduceNeg, Nat.reduceEqDiff, Nat.reduceLeDiff, Nat.reduceSub, Nat.reduceMul, Nat.reduceLT, Nat.reduceBEq, Nat.reduceAdd, Nat.reduceDiv, Nat.reduceMod]
    have hmx := maxLen_val
    refine sw_intro (fun e => ?_) (fun e => h1 (of_decide_eq_false e))
    have har := of_decide_eq_true e
    obtain ⟨h3, h4⟩ := h2 har
    clear h1 h2 e
    obtain ⟨hc1, hf0, hfl, hcl⟩ := har
    refine loop_intro (A := A10 bl lg f dn fr ct p ns) (0 : Nat) ?_ (Nat.zero_le _) ?_
    · simp (maxSteps:=9^9) only [A10, cntA_I, dkH, pgN, go_sem, Int.reduceLT, Int.reduceLE, Int.reduceEq, Int.reduceNe, Int.reduceAdd, Int.reduceSub, Int.reduceMul, Int.reduceToNat, Int.reduceNeg, Nat.reduceEqDiff, Nat.reduceLeDiff, Nat.reduceSub, Nat.reduceMul, Nat.reduceLT, Nat.reduceBEq, Nat.reduceAdd, Nat.reduceDiv, Nat.reduceMod]
      rfl
    · intro (i : Nat) (hi : i ≤ ct.toNat)
      simp (maxSteps:=9^9) only [A10, cntA_I, dkH, pgN, C23, dkH, go_sem, Int.reduceLT, Int.reduceLE, Int.reduceEq, Int.reduceNe, Int.reduceAdd, Int.reduceSub, Int.reduceMul, Int.reduceToNat, Int.reduceNeg, Nat.reduceEqDiff, Nat.reduceLeDiff, Nat.reduceSub, Nat.reduceMul, Nat.reduceLT, Nat.reduceBEq, Nat.reduceAdd, Nat.reduceDiv, Nat.reduceMod]
      refine swd (fun hlt => ?_) (fun hge => ?_)
      · have hl2 := addF_length (areaL fr ct i) []
        rw [areaL_length, List.length_nil] at hl2
        rintro _ _ m hm
        rw [w64 (by omega)] at hm
        subst hm
        refine And.intro (by omega) ?_
        rintro _ _ m hm
        rw [w64 (by omega)] at hm
        subst hm
        refine cntA_next (by omega) ?_
        simp (maxSteps:=9^9) only [go_sem, Int.reduceLT, Int.reduceLE, Int.reduceEq, Int.reduceNe, Int.reduceAdd, Int.reduceSub, Int.reduceMul, Int.reduceToNat, Int.reduceNeg, Nat.reduceEqDiff, Nat.reduceLeDiff, Nat.reduceSub, Nat.reduceMul, Nat.reduceLT, Nat.reduceBEq, Nat.reduceAdd, Nat.reduceDiv, Nat.reduceMod]
        rw [areaL_snoc, addF_snoc]
        rfl
      · have hi2 : i = ct.toNat := by omega
        subst hi2
        refine sw_intro (fun e => by rw [hd] at e; cases e) (fun _ => ?_)
        rintro _ _ m rfl
        refine loop_intro (A := B10 bl lg f dn fr ct p ns) (⟨0, [], initF fr ct⟩ : G10) ?_ ⟨rfl, Nat.zero_le _, Nat.zero_le _⟩ ?_
        · simp (maxSteps:=9^9) only [J10, dkH, pgN, go_sem, Int.reduceLT, Int.reduceLE, Int.reduceEq, Int.reduceNe, Int.reduceAdd, Int.reduceSub, Int.reduceMul, Int.reduceToNat, Int.reduceNeg, Nat.reduceEqDiff, Nat.reduceLeDiff, Nat.reduceSub, Nat.reduceMul, Nat.reduceLT, Nat.reduceBEq, Nat.reduceAdd, Nat.reduceDiv, Nat.reduceMod]
          rfl
        · rintro (g : G10) ⟨hr, hl, ht⟩
          change openL bl fr ct (ns.drop g.i) g.T g.F = _ at hr
          change g.i ≤ ns.length at hl
          change g.T.length ≤ g.i at ht
          simp (maxSteps:=9^9) only [J10, dkH, pgN, C32, dkH, go_sem, Int.reduceLT, Int.reduceLE, Int.reduceEq, Int.reduceNe, Int.reduceAdd, Int.reduceSub, Int.reduceMul, Int.reduceToNat, Int.reduceNeg, Nat.reduceEqDiff, Nat.reduceLeDiff, Nat.reduceSub, Nat.reduceMul, Nat.reduceLT, Nat.reduceBEq, Nat.reduceAdd, Nat.reduceDiv, Nat.reduceMod]
          refine swd (fun hlt => ?_) (fun hge => ?_)
          · rw [drop_elt (t := .int .i64) hlt, openL] at hr
            generalize hn : elt (.int .i64) ns g.i = n at *
            refine nd_intro hlt (And.intro ⟨hd, hf0, by omega, by omega, hbl⟩ (And.intro (fun t bs htx => ?_) (fun htx => ?_)))
            · rw [htx] at hr
              simp only at hr
              rintro _ _ m rfl
              refine loop_intro (A := D10 bl lg f dn fr ct p ns) (⟨g.i, g.T, g.F, n, bs, 0⟩ : H10) ?_ ⟨rfl, Nat.zero_le _, rfl, rfl, rfl, rfl⟩ ?_
              · simp (maxSteps:=9^9) only [K10, dkH, pgN, go_sem, Int.reduceLT, Int.reduceLE, Int.reduceEq, Int.reduceNe, Int.reduceAdd, Int.reduceSub, Int.reduceMul, Int.reduceToNat, Int.reduceNeg, Nat.reduceEqDiff, Nat.reduceLeDiff, Nat.reduceSub, Nat.reduceMul, Nat.reduceLT, Nat.reduceBEq, Nat.reduceAdd, Nat.reduceDiv, Nat.reduceMod]
                rfl
              · rintro (b : H10) ⟨b1, b2, b3, b4, b5, b6⟩
                obtain ⟨bi, bT, bF, bn, bbs, bk⟩ := b
                simp only at b1 b2 b3 b4 b5 b6
                subst b3 b4 b5 b6
                simp (maxSteps:=9^9) only [K10, dkH, pgN, go_sem, Int.reduceLT, Int.reduceLE, Int.reduceEq, Int.reduceNe, Int.reduceAdd, Int.reduceSub, Int.reduceMul, Int.reduceToNat, Int.reduceNeg, Nat.reduceEqDiff, Nat.reduceLeDiff, Nat.reduceSub, Nat.reduceMul, Nat.reduceLT, Nat.reduceBEq, Nat.reduceAdd, Nat.reduceDiv, Nat.reduceMod]
                refine swd (fun hlt2 => ?_) (fun hge2 => ?_)
                · rw [drop_elt (t := .int .i64) hlt2, takeBs] at b1
                  refine nd_intro hlt2 ?_
                  rintro y b hy _
                  have hy' : y = lkB bF (elt (.int .i64) bbs bk) := hy
                  clear hy
                  subst hy'
                  refine sw_intro (fun e => ?_) (fun e => ?_)
                  · rw [if_pos e] at b1
                    rintro _ _ m hm
                    rw [w64 (by omega)] at hm
                    subst hm
                    refine lpE_intro (A := D10 bl lg f dn fr ct p ns) (⟨g.i, g.T, delM (.int .i64) .bool bF (elt (.int .i64) bbs bk), bn, bbs, bk + 1⟩ : H10) ?_ ⟨b1, hlt2, rfl, rfl, rfl, rfl⟩ (by show bbs.length - (bk + 1) < bbs.length - bk; omega)
                    simp (maxSteps:=9^9) only [K10, dkH, pgN, go_sem, Int.reduceLT, Int.reduceLE, Int.reduceEq, Int.reduceNe, Int.reduceAdd, Int.reduceSub, Int.reduceMul, Int.reduceToNat, Int.reduceNeg, Nat.reduceEqDiff, Nat.reduceLeDiff, Nat.reduceSub, Nat.reduceMul, Nat.reduceLT, Nat.reduceBEq, Nat.reduceAdd, Nat.reduceDiv, Nat.reduceMod]
                    rfl
                  · rw [if_neg (by rw [e]; exact Bool.false_ne_true)] at b1
                    rw [← b1] at hr
                    exact h4 hr.symm
                · have hk : bk = bbs.length := by omega
                  subst hk
                  rw [List.drop_length, takeBs] at b1
                  rw [← b1] at hr
                  simp only at hr
                  refine And.intro (by omega) ?_
                  rintro _ _ m hm
                  rw [w64 (by omega)] at hm
                  subst hm
                  have hul := updM_le (kt := .int .i64) (vt := .sl 8 (.int .i64)) g.T bn bbs
                  refine lpE_intro (A := B10 bl lg f dn fr ct p ns) (⟨g.i + 1, updT g.T bn bbs, bF⟩ : G10) ?_ ⟨hr, hlt, ?_⟩ (by show ns.length - (g.i + 1) < ns.length - g.i; omega)
                  · simp (maxSteps:=9^9) only [J10, dkH, pgN, go_sem, Int.reduceLT, Int.reduceLE, Int.reduceEq, Int.reduceNe, Int.reduceAdd, Int.reduceSub, Int.reduceMul, Int.reduceToNat, Int.reduceNeg, Nat.reduceEqDiff, Nat.reduceLeDiff, Nat.reduceSub, Nat.reduceMul, Nat.reduceLT, Nat.reduceBEq, Nat.reduceAdd, Nat.reduceDiv, Nat.reduceMod]
                    rfl
                  · show (updT g.T bn bbs).length ≤ g.i + 1
                    unfold updT
                    omega
            · rw [htx] at hr
              exact h4 hr.symm
          · have hi2 : g.i = ns.length := by omega
            rw [hi2, List.drop_length, openL] at hr
            exact h3 _ _ hr.symm
  · exact h.elim
end Go.V
namespace Go.V
open Go.Proofs
set_option maxRecDepth 100000
set_option linter.unusedSimpArgs false
set_option linter.unnecessarySimpa false
set_option linter.unusedVariables false
attribute [local irreducible] rc
abbrev ChT : Ty := .pair .str (.pair (.sl 1 .byte) .bool)
abbrev LsT : Ty := .sl 48 ChT
structure G10a where
 n : Int
 c : Int
 i : Nat
 k : Nat
def A10a (p : Bool) (xs : List LsT.den) : LoopAnn := {
 G := G10a
 I := fun g => ⟨[(0, .sl p 24 (.sl 48 (.pair .str (.pair (.sl 1 .byte) .bool))) xs), (3, .int .i64 g.n), (4, .int .i64 g.c), (8, .int .i64 xs.length), (9, .int .i64 g.i)], []⟩
 R := fun _ g => g.i ≤ xs.length
 μ := fun g => xs.length - g.i }
theorem I10a (p xs) (g : G10a) : (A10a p xs).I g = ⟨[(0, .sl p 24 (.sl 48 (.pair .str (.pair (.sl 1 .byte) .bool))) xs), (3, .int .i64 g.n), (4, .int .i64 g.c), (8, .int .i64 xs.length), (9, .int .i64 g.i)], []⟩ := rfl
def B10a (p : Bool) (xs : List LsT.den) : LoopAnn := {
 G := G10a
 I := fun g => ⟨[(0, .sl p 24 (.sl 48 (.pair .str (.pair (.sl 1 .byte) .bool))) xs), (3, .int .i64 g.n), (4, .int .i64 g.c), (5, .int .i64 g.i), (8, .int .i64 xs.length), (9, .int .i64 g.i), (16, .int .i64 (elt LsT xs g.i).length), (17, .int .i64 g.k)], []⟩
 R := fun g0 g => g.i = g0.i ∧ g.k ≤ (elt LsT xs g.i).length
 μ := fun g => (elt LsT xs g.i).length - g.k }
theorem J10a (p xs) (g : G10a) : (B10a p xs).I g = ⟨[(0, .sl p 24 (.sl 48 (.pair .str (.pair (.sl 1 .byte) .bool))) xs), (3, .int .i64 g.n), (4, .int .i64 g.c), (5, .int .i64 g.i), (8, .int .i64 xs.length), (9, .int .i64 g.i), (16, .int .i64 (elt LsT xs g.i).length), (17, .int .i64 g.k)], []⟩ := rfl
def C10 : Contract := fun args hp K => match args, hp with
 | [.sl p 24 (.sl 48 (.pair .str (.pair (.sl 1 .byte) .bool))) xs], [] => ∀ b : Bool, K (.bool b) []
 | _, _ => False
theorem s10 : Sound Tryz.prog 10 C10 := by
 refine sound_of_okF ok10 .nil ?_
 intro args hp K h
 unfold C10 at h
 split at h
 ·rename_i p xs
  refine ⟨by simp, [(1, A10a p xs), (2, B10a p xs)], ?_⟩
  simp (maxSteps:=9^9) only [a10, r10, go_sem, eq_self, and_self, Int.natCast_pos, Int.le_refl, Nat.le_refl, Int.natCast_nonneg, Int.ofNat_lt, Int.ofNat_le, Int.reduceLT, Int.reduceLE, Int.reduceEq, Int.reduceNe, Int.reduceAdd, Int.reduceSub, Int.reduceMul, Int.reduceToNat, Int.reduceNeg, Nat.reduceEqDiff, Nat.reduceLeDiff, Nat.reduceSub, Nat.reduceMul, Nat.reduceLT, Nat.reduceBEq, Nat.reduceAdd, Nat.reduceDiv, Nat.reduceMod]
  rintro _ _ m rfl
  refine loop_intro (A := A10a p xs) (⟨0, 0, 0, 0⟩ : G10a) ?_ (Nat.zero_le _) ?_
  ·simp (maxSteps:=9^9) only [I10a, go_sem, eq_self, and_self, Int.natCast_pos, Int.le_refl, Nat.le_refl, Int.natCast_nonneg, Int.ofNat_lt, Int.ofNat_le, Int.reduceLT, Int.reduceLE, Int.reduceEq, Int.reduceNe, Int.reduceAdd, Int.reduceSub, Int.reduceMul, Int.reduceToNat, Int.reduceNeg, Nat.reduceEqDiff, Nat.reduceLeDiff, Nat.reduceSub, Nat.reduceMul, Nat.reduceLT, Nat.reduceBEq, Nat.reduceAdd, Nat.reduceDiv, Nat.reduceMod]
   rfl
  rintro ⟨n, c, i, k⟩ hi
  change i ≤ xs.length at hi
  simp (maxSteps:=9^9) only [I10a, go_sem, eq_self, and_self, Int.natCast_pos, Int.le_refl, Nat.le_refl, Int.natCast_nonneg, Int.ofNat_lt, Int.ofNat_le, Int.reduceLT, Int.reduceLE, Int.reduceEq, Int.reduceNe, Int.reduceAdd, Int.reduceSub, Int.reduceMul, Int.reduceToNat, Int.reduceNeg, Nat.reduceEqDiff, Nat.reduceLeDiff, Nat.reduceSub, Nat.reduceMul, Nat.reduceLT, Nat.reduceBEq, Nat.reduceAdd, Nat.reduceDiv, Nat.reduceMod]
  have hm := maxLen_val
  refine swd (fun hc => ?_) (fun hc => ?_)
  ·have hlt : i < xs.length := by omega
   refine nd_intro hlt ?_
   rintro h1 h2 m rfl
   refine loop_intro (A := B10a p xs) (⟨n, c, i, 0⟩ : G10a) ?_ ⟨rfl, Nat.zero_le _⟩ ?_
   ·simp (maxSteps:=9^9) only [J10a, go_sem, eq_self, and_self, Int.natCast_pos, Int.le_refl, Nat.le_refl, Int.natCast_nonneg, Int.ofNat_lt, Int.ofNat_le, Int.reduceLT, Int.reduceLE, Int.reduceEq, Int.reduceNe, Int.reduceAdd, Int.reduceSub, Int.reduceMul, Int.reduceToNat, Int.reduceNeg, Nat.reduceEqDiff, Nat.reduceLeDiff, Nat.reduceSub, Nat.reduceMul, Nat.reduceLT, Nat.reduceBEq, Nat.reduceAdd, Nat.reduceDiv, Nat.reduceMod]
    rfl
   rintro ⟨n', c', i', k'⟩ ⟨hi', hk'⟩
   change i' = i at hi'
   change k' ≤ _ at hk'
   subst hi'
   simp (maxSteps:=9^9) only [J10a, go_sem, eq_self, and_self, Int.natCast_pos, Int.le_refl, Nat.le_refl, Int.natCast_nonneg, Int.ofNat_lt, Int.ofNat_le, Int.reduceLT, Int.reduceLE, Int.reduceEq, Int.reduceNe, Int.reduceAdd, Int.reduceSub, Int.reduceMul, Int.reduceToNat, Int.reduceNeg, Nat.reduceEqDiff, Nat.reduceLeDiff, Nat.reduceSub, Nat.reduceMul, Nat.reduceLT, Nat.reduceBEq, Nat.reduceAdd, Nat.reduceDiv, Nat.reduceMod]
   refine swd (fun hc2 => ?_) (fun hc2 => ?_)
   ·have h2' : (elt LsT xs i').length * 48 ≤ 140737488355328 := h2
    intro _ _ c1 hc1 _ _ n1 hn1
    refine nd_intro hlt (nd_intro hc2 ?_)
    intro _ _ l1 _ l2 _ _ _ n2 _
    refine nd_intro hlt (nd_intro hc2 ?_)
    intro _ l3 _ l4 _ _ _ n3 _ _ _ m hm3
    rw [w64 (by omega)] at hm3
    subst hm3
    refine lpE_intro (A := B10a p xs) (⟨n3, c1, i', k' + 1⟩ : G10a) ?_ ⟨rfl, hc2⟩ ?_
    ·simp (maxSteps:=9^9) only [J10a, go_sem, eq_self, and_self, Int.natCast_pos, Int.le_refl, Nat.le_refl, Int.natCast_nonneg, Int.ofNat_lt, Int.ofNat_le, Int.reduceLT, Int.reduceLE, Int.reduceEq, Int.reduceNe, Int.reduceAdd, Int.reduceSub, Int.reduceMul, Int.reduceToNat, Int.reduceNeg, Nat.reduceEqDiff, Nat.reduceLeDiff, Nat.reduceSub, Nat.reduceMul, Nat.reduceLT, Nat.reduceBEq, Nat.reduceAdd, Nat.reduceDiv, Nat.reduceMod]
     rfl
    ·show (elt LsT xs i').length - (k' + 1) < (elt LsT xs i').length - k'
     omega
   ·refine swd (fun _ => h false) (fun _ => swd (fun _ => h false) (fun _ => swd (fun _ => h false) (fun _ => ?_)))
    rintro _ _ m hm3
    rw [w64 (by omega)] at hm3
    subst hm3
    refine lpE_intro (A := A10a p xs) (⟨n', c', i' + 1, 0⟩ : G10a) ?_ hlt ?_
    ·simp (maxSteps:=9^9) only [I10a, go_sem, eq_self, and_self, Int.natCast_pos, Int.le_refl, Nat.le_refl, Int.natCast_nonneg, Int.ofNat_lt, Int.ofNat_le, Int.reduceLT, Int.reduceLE, Int.reduceEq, Int.reduceNe, Int.reduceAdd, Int.reduceSub, Int.reduceMul, Int.reduceToNat, Int.reduceNeg, Nat.reduceEqDiff, Nat.reduceLeDiff, Nat.reduceSub, Nat.reduceMul, Nat.reduceLT, Nat.reduceBEq, Nat.reduceAdd, Nat.reduceDiv, Nat.reduceMod]
     rfl
    ·show xs.length - (i' + 1) < xs.length - i'
     omega
  ·exact h true
 ·exact h.elim
end Go.V
namespace Go.V
open Go.Proofs
set_option maxRecDepth 100000
set_option linter.unusedSimpArgs false
set_option linter.unnecessarySimpa false
set_option linter.unusedVariables false
attribute [local irreducible] rc
/-! ### nil trees -/
def C17z : Contract := fun args hp K => match args, hp with
 | [.nilp], [] => K (.tup []) []
 | _, _ => False
theorem s17z : Sound Tryz.prog 17 C17z := by
 refine sound_of_okF ok17 .nil ?_
 intro args hp K h
 unfold C17z at h
 split at h
 ·refine ⟨by simp, [], ?_⟩
  simp (maxSteps:=9^9) only [a17, r17, go_sem, eq_self, and_self, Int.natCast_pos, Int.le_refl, Nat.le_refl, Int.natCast_nonneg, Int.ofNat_lt, Int.ofNat_le, Int.reduceLT, Int.reduceLE, Int.reduceEq, Int.reduceNe, Int.reduceAdd, Int.reduceSub, Int.reduceMul, Int.reduceToNat, Int.reduceNeg, Nat.reduceEqDiff, Nat.reduceLeDiff, Nat.reduceSub, Nat.reduceMul, Nat.reduceLT, Nat.reduceBEq, Nat.reduceAdd, Nat.reduceDiv, Nat.reduceMod]
  exact h
 ·exact h.elim
def C20z : Contract := fun args hp K => match args, hp with
 | [.nilp], [] => K (.int .i64 0) []
 | _, _ => False
theorem s20z : Sound Tryz.prog 20 C20z := by
 refine sound_of_okF ok20 .nil ?_
 intro args hp K h
 unfold C20z at h
 split at h
 ·refine ⟨by simp, [], ?_⟩
  simp (maxSteps:=9^9) only [a20, r20, go_sem, eq_self, and_self, Int.natCast_pos, Int.le_refl, Nat.le_refl, Int.natCast_nonneg, Int.ofNat_lt, Int.ofNat_le, Int.reduceLT, Int.reduceLE, Int.reduceEq, Int.reduceNe, Int.reduceAdd, Int.reduceSub, Int.reduceMul, Int.reduceToNat, Int.reduceNeg, Nat.reduceEqDiff, Nat.reduceLeDiff, Nat.reduceSub, Nat.reduceMul, Nat.reduceLT, Nat.reduceBEq, Nat.reduceAdd, Nat.reduceDiv, Nat.reduceMod]
  exact h
 ·exact h.elim
def C27z : Contract := fun args hp K => match args, hp with
 | [.nilp, .str k], [] => K (.tup [.own 0, .bool false]) [.row true 1 .byte []]
 | _, _ => False
theorem s27z : Sound Tryz.prog 27 C27z := by
 refine sound_of_okF ok27 .nil ?_
 intro args hp K h
 unfold C27z at h
 split at h
 ·refine ⟨by simp, [], ?_⟩
  simp (maxSteps:=9^9) only [a27, r27, go_sem, eq_self, and_self, Int.natCast_pos, Int.le_refl, Nat.le_refl, Int.natCast_nonneg, Int.ofNat_lt, Int.ofNat_le, Int.reduceLT, Int.reduceLE, Int.reduceEq, Int.reduceNe, Int.reduceAdd, Int.reduceSub, Int.reduceMul, Int.reduceToNat, Int.reduceNeg, Nat.reduceEqDiff, Nat.reduceLeDiff, Nat.reduceSub, Nat.reduceMul, Nat.reduceLT, Nat.reduceBEq, Nat.reduceAdd, Nat.reduceDiv, Nat.reduceMod]
  exact h
 ·exact h.elim
def C19z : Contract := fun args hp K => match args, hp with
 | [.nilp, .str a, .str b], [] => K (.own 0) [.row true 16 .str []]
 | _, _ => False
theorem s19z : Sound Tryz.prog 19 C19z := by
 refine sound_of_okF ok19 .nil ?_
 intro args hp K h
 unfold C19z at h
 split at h
 ·refine ⟨by simp, [], ?_⟩
  simp (maxSteps:=9^9) only [a19, r19, go_sem, eq_self, and_self, Int.natCast_pos, Int.le_refl, Nat.le_refl, Int.natCast_nonneg, Int.ofNat_lt, Int.ofNat_le, Int.reduceLT, Int.reduceLE, Int.reduceEq, Int.reduceNe, Int.reduceAdd, Int.reduceSub, Int.reduceMul, Int.reduceToNat, Int.reduceNeg, Nat.reduceEqDiff, Nat.reduceLeDiff, Nat.reduceSub, Nat.reduceMul, Nat.reduceLT, Nat.reduceBEq, Nat.reduceAdd, Nat.reduceDiv, Nat.reduceMod]
  exact h
 ·exact h.elim
def C15z : Contract := fun args hp K => match args, hp with
 | [.nilp, x], [] => K (.int .i64 1) []
 | _, _ => False
theorem s15z : Sound Tryz.prog 15 C15z := by
 refine sound_of_okF ok15 .nil ?_
 intro args hp K h
 unfold C15z at h
 split at h
 ·refine ⟨by simp, [], ?_⟩
  simp (maxSteps:=9^9) only [a15, r15, go_sem, eq_self, and_self, Int.natCast_pos, Int.le_refl, Nat.le_refl, Int.natCast_nonneg, Int.ofNat_lt, Int.ofNat_le, Int.reduceLT, Int.reduceLE, Int.reduceEq, Int.reduceNe, Int.reduceAdd, Int.reduceSub, Int.reduceMul, Int.reduceToNat, Int.reduceNeg, Nat.reduceEqDiff, Nat.reduceLeDiff, Nat.reduceSub, Nat.reduceMul, Nat.reduceLT, Nat.reduceBEq, Nat.reduceAdd, Nat.reduceDiv, Nat.reduceMod]
  exact h
 ·exact h.elim
def C33 : Contract := fun args hp K => match args with
 | [.nilp] => hp = [] ∧ K (.int .i64 0) []
 | [.ptr 0 0] => onPg hp fun fr T F bl lg f dn => K (.int .i64 fr) (pgH false fr T F bl lg f dn)
 | _ => False
theorem s33 : Sound Tryz.prog 33 C33 := by
 refine sound_of_okF ok33 .nil ?_
 intro args hp K h
 unfold C33 at h
 split at h
 ·obtain ⟨rfl, h⟩ := h
  refine ⟨by simp, [], ?_⟩
  simp (maxSteps:=9^9) only [a33, r33, go_sem, eq_self, and_self, Int.natCast_pos, Int.le_refl, Nat.le_refl, Int.natCast_nonneg, Int.ofNat_lt, Int.ofNat_le, Int.reduceLT, Int.reduceLE, Int.reduceEq, Int.reduceNe, Int.reduceAdd, Int.reduceSub, Int.reduceMul, Int.reduceToNat, Int.reduceNeg, Nat.reduceEqDiff, Nat.reduceLeDiff, Nat.reduceSub, Nat.reduceMul, Nat.reduceLT, Nat.reduceBEq, Nat.reduceAdd, Nat.reduceDiv, Nat.reduceMod]
  exact h
 ·obtain ⟨fr, T, F, bl, lg, f, dn, rfl, h⟩ := h
  refine ⟨by simp, [], ?_⟩
  simp (maxSteps:=9^9) only [a33, r33, pgH, go_sem, eq_self, and_self, Int.natCast_pos, Int.le_refl, Nat.le_refl, Int.natCast_nonneg, Int.ofNat_lt, Int.ofNat_le, Int.reduceLT, Int.reduceLE, Int.reduceEq, Int.reduceNe, Int.reduceAdd, Int.reduceSub, Int.reduceMul, Int.reduceToNat, Int.reduceNeg, Nat.reduceEqDiff, Nat.reduceLeDiff, Nat.reduceSub, Nat.reduceMul, Nat.reduceLT, Nat.reduceBEq, Nat.reduceAdd, Nat.reduceDiv, Nat.reduceMod]
  exact h
 ·exact h.elim
/-! ### walkers that come to nothing -/
def wkA (n : Int) (fr : Int) (T : List (Int × List Int)) (F : List (Int × Bool)) (bl : List ByT.den) (lg : List LgT.den) (f : Int) (dn : Bool) : List SB :=
  [.struct [.fn 1000034 [.ptr 1 0], .mp 7, .int .i64 n], .struct [.ptr 2 0, .int .i64 fr, .mp 5, .mp 6], .struct [.own 3, .own 4, .int .i64 f, .bool dn], .row false 24 (.sl 1 .byte) bl, .row false 32 (.pair (.int .i64) (.sl 1 .byte)) lg,
   .map false (.int .i64) (.sl 8 (.int .i64)) T, .map false (.int .i64) .bool F, .map true (.int .i64) (.pair .bool (.sl 48 (.pair .str (.pair (.int .i64) (.sl 1 .byte))))) []]
def wkB (n fr ct : Int) (bl : List ByT.den) (lg : List LgT.den) (f : Int) (dn : Bool) : List SB :=
  [.struct [.fn 50 [.ptr 1 0, .ptr 5 0, .ptr 6 0], .mp 7, .int .i64 n], .struct [.ptr 2 0], .struct [.own 3, .own 4, .int .i64 f, .bool dn], .row false 24 (.sl 1 .byte) bl, .row false 32 (.pair (.int .i64) (.sl 1 .byte)) lg,
   .struct [.int .i64 fr], .struct [.int .i64 ct], .map true (.int .i64) (.pair .bool (.sl 48 (.pair .str (.pair (.int .i64) (.sl 1 .byte))))) []]
def C50z : Contract := fun args hp K => match args with
 | [.int .i64 a, .ptr 0 0, .ptr 4 0, .ptr 5 0] => ∃ fr ct bl lg f, hp = [.struct [.ptr 1 0], .struct [.own 2, .own 3, .int .i64 f, .bool false], .row false 24 (.sl 1 .byte) bl, .row false 32 (.pair (.int .i64) (.sl 1 .byte)) lg, .struct [.int .i64 fr], .struct [.int .i64 ct]] ∧
   (0 ≤ fr ∧ 0 ≤ ct ∧ fr + ct ≤ bl.length ∧ bl.length ≤ 65536) ∧ textF bl fr ct a 86 a [] [] = none ∧
   K (.tup [.own 6, .int .i64 2]) [.struct [.ptr 1 0], .struct [.own 2, .own 3, .int .i64 f, .bool false], .row false 24 (.sl 1 .byte) bl, .row false 32 (.pair (.int .i64) (.sl 1 .byte)) lg, .struct [.int .i64 fr], .struct [.int .i64 ct], .row true 1 .byte []]
 | _ => False
theorem use32z {K : SV → List SB → Prop} {fr ct a : Int} {bl : List ByT.den} {lg : List LgT.den} {f : Int} (h : 0 ≤ fr ∧ 0 ≤ ct ∧ fr + ct ≤ bl.length ∧ bl.length ≤ 65536) (ht : textF bl fr ct a 86 a [] [] = none)
  (k : K (.tup [.own 3, .own 4, .int .i64 2]) (dkH false bl lg f false ++ [.row true 1 .byte [], .row true 8 (.int .i64) []])) : C32 [.ptr 0 0, .int .i64 fr, .int .i64 ct, .int .i64 a] (dkH false bl lg f false) K :=
 ⟨bl, lg, f, false, rfl, ⟨rfl, h⟩, (fun t bs e => by rw [ht] at e; cases e), fun _ => k⟩
theorem s50z : Sound Tryz.prog 50 C50z := by
 refine sound_of_okF ok50 (.cons s32 (callable_of_okF ok32) .nil) ?_
 intro args hp K h
 unfold C50z at h
 split at h
 ·obtain ⟨fr, ct, bl, lg, f, rfl, hb, ht, h⟩ := h
  refine ⟨by simp, [], ?_⟩
  simp (maxSteps:=9^9) only [a50, r50, go_sem, eq_self, and_self, Int.natCast_pos, Int.le_refl, Nat.le_refl, Int.natCast_nonneg, Int.ofNat_lt, Int.ofNat_le, Int.reduceLT, Int.reduceLE, Int.reduceEq, Int.reduceNe, Int.reduceAdd, Int.reduceSub, Int.reduceMul, Int.reduceToNat, Int.reduceNeg, Nat.reduceEqDiff, Nat.reduceLeDiff, Nat.reduceSub, Nat.reduceMul, Nat.reduceLT, Nat.reduceBEq, Nat.reduceAdd, Nat.reduceDiv, Nat.reduceMod]
  refine use32z hb ht ?_
  simp (maxSteps:=9^9) only [dkH, go_sem, eq_self, and_self, Int.natCast_pos, Int.le_refl, Nat.le_refl, Int.natCast_nonneg, Int.ofNat_lt, Int.ofNat_le, Int.reduceLT, Int.reduceLE, Int.reduceEq, Int.reduceNe, Int.reduceAdd, Int.reduceSub, Int.reduceMul, Int.reduceToNat, Int.reduceNeg, Nat.reduceEqDiff, Nat.reduceLeDiff, Nat.reduceSub, Nat.reduceMul, Nat.reduceLT, Nat.reduceBEq, Nat.reduceAdd, Nat.reduceDiv, Nat.reduceMod]
  exact h
 ·exact h.elim
def C35z : Contract := fun args hp K => match args with
 | [.ptr 0 0, .int .i64 a, .int .i64 0] => (∃ n fr T F bl lg f dn, 0 ≤ n ∧ hp = wkA n fr T F bl lg f dn ∧ lkT' T a = none ∧ K (.tup [.int .i64 0, .int .i64 5]) (wkA n fr T F bl lg f dn)) ∨
   (∃ n fr ct bl lg f, 0 ≤ n ∧ hp = wkB n fr ct bl lg f false ∧ (0 ≤ fr ∧ 0 ≤ ct ∧ fr + ct ≤ bl.length ∧ bl.length ≤ 65536) ∧ textF bl fr ct a 86 a [] [] = none ∧ K (.tup [.int .i64 0, .int .i64 2]) (wkB n fr ct bl lg f false))
 | _ => False
theorem use34z {K : SV → List SB → Prop} {a fr : Int} {T : List (Int × List Int)} {F : List (Int × Bool)} {bl : List ByT.den} {lg : List LgT.den} {f : Int} {dn : Bool} (ht : lkT' T a = none)
  (k : K (.tup [.own 6, .int .i64 5]) (pgH false fr T F bl lg f dn ++ [.row true 1 .byte []])) : C34 [.ptr 0 0, .int .i64 a] (pgH false fr T F bl lg f dn) K :=
 ⟨fr, T, F, bl, lg, f, dn, rfl, fun _ => k, fun bs e => by rw [ht] at e; cases e⟩
theorem s35z : Sound Tryz.prog 35 C35z := by
 refine sound_of_okF ok35 (.cons s34 (callable_of_okF ok34) (.cons s50z (callable_of_okF ok50) .nil)) ?_
 intro args hp K h
 unfold C35z at h
 split at h
 ·rcases h with ⟨n, fr, T, F, bl, lg, f, dn, hn, rfl, ht, h⟩ | ⟨n, fr, ct, bl, lg, f, hn, rfl, hb, ht, h⟩
  ·refine ⟨by simp, [], ?_⟩
   simp (maxSteps:=9^9) only [a35, r35, wkA, go_sem, eq_self, and_self, Int.natCast_pos, Int.le_refl, Nat.le_refl, Int.natCast_nonneg, Int.ofNat_lt, Int.ofNat_le, Int.reduceLT, Int.reduceLE, Int.reduceEq, Int.reduceNe, Int.reduceAdd, Int.reduceSub, Int.reduceMul, Int.reduceToNat, Int.reduceNeg, Nat.reduceEqDiff, Nat.reduceLeDiff, Nat.reduceSub, Nat.reduceMul, Nat.reduceLT, Nat.reduceBEq, Nat.reduceAdd, Nat.reduceDiv, Nat.reduceMod]
   rintro y b rfl hb2
   have hb' : b = false := hb2
   subst hb'
   refine sw_intro (fun hc => by cases hc) (fun _ => ?_)
   rintro _ m rfl
   refine swd (fun hc => by omega) (fun _ => ?_)
   refine use34z ht ?_
   simp (maxSteps:=9^9) only [pgH, go_sem, eq_self, and_self, Int.natCast_pos, Int.le_refl, Nat.le_refl, Int.natCast_nonneg, Int.ofNat_lt, Int.ofNat_le, Int.reduceLT, Int.reduceLE, Int.reduceEq, Int.reduceNe, Int.reduceAdd, Int.reduceSub, Int.reduceMul, Int.reduceToNat, Int.reduceNeg, Nat.reduceEqDiff, Nat.reduceLeDiff, Nat.reduceSub, Nat.reduceMul, Nat.reduceLT, Nat.reduceBEq, Nat.reduceAdd, Nat.reduceDiv, Nat.reduceMod]
   exact h
  ·refine ⟨by simp, [], ?_⟩
   simp (maxSteps:=9^9) only [a35, r35, wkB, go_sem, eq_self, and_self, Int.natCast_pos, Int.le_refl, Nat.le_refl, Int.natCast_nonneg, Int.ofNat_lt, Int.ofNat_le, Int.reduceLT, Int.reduceLE, Int.reduceEq, Int.reduceNe, Int.reduceAdd, Int.reduceSub, Int.reduceMul, Int.reduceToNat, Int.reduceNeg, Nat.reduceEqDiff, Nat.reduceLeDiff, Nat.reduceSub, Nat.reduceMul, Nat.reduceLT, Nat.reduceBEq, Nat.reduceAdd, Nat.reduceDiv, Nat.reduceMod]
   rintro y b rfl hb2
   have hb' : b = false := hb2
   subst hb'
   refine sw_intro (fun hc => by cases hc) (fun _ => ?_)
   rintro _ m rfl
   refine swd (fun hc => by omega) (fun _ => ?_)
   refine ⟨fr, ct, bl, lg, f, rfl, hb, ht, ?_⟩
   simp (maxSteps:=9^9) only [wkB, List.cons_append, List.nil_append, go_sem, eq_self, and_self, Int.natCast_pos, Int.le_refl, Nat.le_refl, Int.natCast_nonneg, Int.ofNat_lt, Int.ofNat_le, Int.reduceLT, Int.reduceLE, Int.reduceEq, Int.reduceNe, Int.reduceAdd, Int.reduceSub, Int.reduceMul, Int.reduceToNat, Int.reduceNeg, Nat.reduceEqDiff, Nat.reduceLeDiff, Nat.reduceSub, Nat.reduceMul, Nat.reduceLT, Nat.reduceBEq, Nat.reduceAdd, Nat.reduceDiv, Nat.reduceMod]
   exact h
 ·exact h.elim
end Go.V
namespace Go.V
open Go.Proofs
set_option maxRecDepth 100000
set_option linter.unusedSimpArgs false
set_option linter.unnecessarySimpa false
set_option linter.unusedVariables false
abbrev nodeT : Ty := .pair .bool (.sl 48 (.pair .str (.pair (.int .i64) (.sl 1 .byte))))
def C14 : Contract := fun args hp K => match args with
 | [.nilp, .int .i64 a] => hp = [] ∧ K (.tup [.nilp, .int .i64 1]) []
 | [.ptr 0 0, .int .i64 a] => onPg hp fun fr T F bl lg f dn => lkT' T a = none ∧
   (fr = 0 → K (.tup [.nilp, .int .i64 1]) (pgH false fr T F bl lg f dn)) ∧
   (fr ≠ 0 → a = 0 → K (.tup [.ptr 6 0, .int .i64 0]) (pgH false fr T F bl lg f dn ++ [.struct [.ptr 0 0, .int .i64 a, .mp 7, .own 8, .own 9, .own 10], .map true (.int .i64) nodeT [], .row true 8 (.int .i64) [], .row true 8 (.int .i64) [], .row true 8 (.int .i64) []])) ∧
   (fr ≠ 0 → a ≠ 0 → K (.tup [.nilp, .int .i64 2]) (pgH false fr T F bl lg f dn))
 | _ => False
theorem s14 : Sound Tryz.prog 14 C14 := by
 refine sound_of_okF ok14 (.cons s33 (callable_of_okF ok33) (.cons s35z (callable_of_okF ok35) .nil)) ?_
 intro args hp K h
 unfold C14 at h
 split at h
 ·rename_i a
  obtain ⟨rfl, h⟩ := h
  refine ⟨by simp, [], ?_⟩
  simp (maxSteps:=9^9) only [a14, r14, C33, go_sem, eq_self, and_self, Int.natCast_pos, Int.le_refl, Nat.le_refl, Int.natCast_nonneg, Int.ofNat_lt, Int.ofNat_le, Int.reduceLT, Int.reduceLE, Int.reduceEq, Int.reduceNe, Int.reduceAdd, Int.reduceSub, Int.reduceMul, Int.reduceToNat, Int.reduceNeg, Nat.reduceEqDiff, Nat.reduceLeDiff, Nat.reduceSub, Nat.reduceMul, Nat.reduceLT, Nat.reduceBEq, Nat.reduceAdd, Nat.reduceDiv, Nat.reduceMod]
  exact h
 ·rename_i a
  obtain ⟨fr, T, F, bl, lg, f, dn, rfl, ht, h0, h1, h2⟩ := h
  refine ⟨by simp, [], ?_⟩
  unfold pgH at h0 h1 h2 ⊢
  simp (maxSteps:=9^9) only [a14, r14, C33, pgH, go_sem, eq_self, and_self, Int.natCast_pos, Int.le_refl, Nat.le_refl, Int.natCast_nonneg, Int.ofNat_lt, Int.ofNat_le, Int.reduceLT, Int.reduceLE, Int.reduceEq, Int.reduceNe, Int.reduceAdd, Int.reduceSub, Int.reduceMul, Int.reduceToNat, Int.reduceNeg, Nat.reduceEqDiff, Nat.reduceLeDiff, Nat.reduceSub, Nat.reduceMul, Nat.reduceLT, Nat.reduceBEq, Nat.reduceAdd, Nat.reduceDiv, Nat.reduceMod]
  refine swd (fun e => h0 e) (fun hf => ?_)
  refine swd (fun e => ?_) (fun e => ?_)
  ·exact h1 hf e
  ·refine .inl ⟨65536, fr, T, F, bl, lg, f, dn, by omega, rfl, ht, ?_⟩
   simp (maxSteps:=9^9) only [wkA, go_sem, eq_self, and_self, Int.natCast_pos, Int.le_refl, Nat.le_refl, Int.natCast_nonneg, Int.ofNat_lt, Int.ofNat_le, Int.reduceLT, Int.reduceLE, Int.reduceEq, Int.reduceNe, Int.reduceAdd, Int.reduceSub, Int.reduceMul, Int.reduceToNat, Int.reduceNeg, Nat.reduceEqDiff, Nat.reduceLeDiff, Nat.reduceSub, Nat.reduceMul, Nat.reduceLT, Nat.reduceBEq, Nat.reduceAdd, Nat.reduceDiv, Nat.reduceMod]
   exact h2 hf e
 ·exact h.elim
def C26 : Contract := fun args hp K => match args with
 | [.ptr 0 0, .int .i64 fr, .int .i64 ct, .int .i64 a] => onDk hp fun bl lg f dn => (dn = false ∧ bl.length ≤ 65536 ∧ 1 ≤ ct ∧ 0 ≤ fr ∧ fr ≤ bl.length ∧ ct ≤ bl.length - fr ∧ textF bl fr ct a 86 a [] [] = none) ∧
   (fr = 0 → K (.tup [.own 3, .int .i64 1]) (dkH false bl lg f dn ++ [.row true 8 (.int .i64) []])) ∧
   (fr ≠ 0 → a = 0 → K (.tup [.own 3, .int .i64 0]) (dkH false bl lg f dn ++ [.row true 8 (.int .i64) []])) ∧
   (fr ≠ 0 → a ≠ 0 → K (.tup [.own 3, .int .i64 2]) (dkH false bl lg f dn ++ [.row true 8 (.int .i64) []]))
 | _ => False
theorem s26 : Sound Tryz.prog 26 C26 := by
 refine sound_of_okF ok26 (.cons s31 (callable_of_okF ok31) (.cons s23 (callable_of_okF ok23) (.cons s35z (callable_of_okF ok35) (.cons s51 (callable_of_okF ok51) (.cons s48 ⟨_, Tryz.func48, rfl, by decide⟩ .nil))))) ?_
 intro args hp K h
 unfold C26 at h
 split at h
 ·rename_i fr ct a
  obtain ⟨bl, lg, f, dn, rfl, ⟨hd, hbl, hc1, hf0, hfl, hcl, ht⟩, h0, h1, h2⟩ := h
  refine ⟨by simp, [], ?_⟩
  unfold dkH at h0 h1 h2 ⊢
  subst hd
  simp (maxSteps:=9^9) only [a26, r26, C31, C23, dkH, go_sem, eq_self, and_self, Int.natCast_pos, Int.le_refl, Nat.le_refl, Int.natCast_nonneg, Int.ofNat_lt, Int.ofNat_le, Int.reduceLT, Int.reduceLE, Int.reduceEq, Int.reduceNe, Int.reduceAdd, Int.reduceSub, Int.reduceMul, Int.reduceToNat, Int.reduceNeg, Nat.reduceEqDiff, Nat.reduceLeDiff, Nat.reduceSub, Nat.reduceMul, Nat.reduceLT, Nat.reduceBEq, Nat.reduceAdd, Nat.reduceDiv, Nat.reduceMod]
  refine sw_intro (fun _ => ?_) (fun e => absurd (And.intro hc1 (And.intro hf0 (And.intro hfl hcl))) (of_decide_eq_false e))
  refine swd (fun e => h0 e) (fun hfr => ?_)
  refine swd (fun e => h1 hfr e) (fun ha => ?_)
  refine .inr ⟨ct, fr, ct, bl, lg, f, by omega, rfl, ⟨hf0, by omega, by omega, hbl⟩, ht, ?_⟩
  simp (maxSteps:=9^9) only [wkB, go_sem, eq_self, and_self, Int.natCast_pos, Int.le_refl, Nat.le_refl, Int.natCast_nonneg, Int.ofNat_lt, Int.ofNat_le, Int.reduceLT, Int.reduceLE, Int.reduceEq, Int.reduceNe, Int.reduceAdd, Int.reduceSub, Int.reduceMul, Int.reduceToNat, Int.reduceNeg, Nat.reduceEqDiff, Nat.reduceLeDiff, Nat.reduceSub, Nat.reduceMul, Nat.reduceLT, Nat.reduceBEq, Nat.reduceAdd, Nat.reduceDiv, Nat.reduceMod]
  exact h2 hfr ha
 ·exact h.elim
end Go.V
