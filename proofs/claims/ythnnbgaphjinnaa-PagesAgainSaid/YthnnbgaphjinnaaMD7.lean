/- A part of the proof layer, or functions of the given program in it: contracts and their proofs. -/
import Derived.Test.YthnnbgaphjinnaaMD4
namespace Go.V
open Go.Proofs
set_option maxRecDepth 100000
set_option linter.unusedSimpArgs false
set_option linter.unnecessarySimpa false
set_option linter.unusedVariables false
def nxF (bs : List Int) (i : Nat) : Nat := if i + 1 < bs.length then (elt (.int .i64) bs (i + 1) + 1).toNat else 0
def headF (bs : List Int) (i : Nat) : List UInt8 := [if i = 0 then 1 else 0, UInt8.ofNat (nxF bs i), UInt8.ofNat (nxF bs i / 256), UInt8.ofNat (nxF bs i / 65536)]
def partF (b : List UInt8) (i : Nat) : List UInt8 := (b.drop (238 * i)).take 238
def blkF (bs : List Int) (b : List UInt8) (i : Nat) : List UInt8 := sealF 80 (elt (.int .i64) bs i).toNat (headF bs i ++ partF b i)
def wsF (bs : List Int) (b : List UInt8) : List LgT.den := (List.range bs.length).map fun i => ((elt (.int .i64) bs i, blkF bs b i) : Int × List UInt8)
def delF (F : List (Int × Bool)) (bs : List Int) : List (Int × Bool) := bs.foldl (fun F b => delM (.int .i64) .bool F b) F
theorem delF_snoc (F : List (Int × Bool)) (bs : List Int) (b : Int) : delF F (bs ++ [b]) = delM (.int .i64) .bool (delF F bs) b := by
  unfold delF; rw [List.foldl_append]; rfl
theorem wsF_length (bs : List Int) (b : List UInt8) : (wsF bs b).length = bs.length := by simp [wsF]
theorem wsF_get {bs : List Int} {b : List UInt8} {i : Nat} (h : i < bs.length) : (wsF bs b)[i]? = some (elt (.int .i64) bs i, blkF bs b i) := by simp [wsF, h]
def takeF (F : List (Int × Bool)) (n : Nat) : List Int := (srtI (vt := .bool) F).take (needN n)
def fuA (f : Int) (i : Nat) : Int := if f < 0 then f else f - i
theorem byte0 {x : Int} (hx : 0 ≤ x) : UInt8.ofNat (IntKind.u8.wrap x).toNat = UInt8.ofNat x.toNat := by
  have h := byte_of (sh := 0) hx
  rw [show (2 : Int) ^ 0 = 1 from rfl, Int.fdiv_eq_ediv_of_nonneg _ (by decide), Int.ediv_one, show (2 : Nat) ^ 0 = 1 from rfl, Nat.div_one] at h
  exact h
theorem sealF_length {kd : UInt8} {pl : Nat} {p : List UInt8} (h : p.length ≤ 242) : (sealF kd pl p).length = 256 := by
  unfold sealF; rw [List.length_append, bytesB_length, sBody_length h]
theorem partF_length (b : List UInt8) (i : Nat) : (partF b i).length ≤ 238 := by unfold partF; rw [List.length_take]; omega
theorem part_eq {b : List UInt8} {i : Nat} : (b.drop (238 * i)).take (min (238 * (i + 1)) b.length - 238 * i) = partF b i := by
  unfold partF
  rcases Nat.le_total (238 * (i + 1)) b.length with h | h
  · rw [Nat.min_eq_left h, show 238 * (i + 1) - 238 * i = 238 by omega]
  · rw [Nat.min_eq_right h, List.take_of_length_le (by rw [List.length_drop]; exact Nat.le_refl _), List.take_of_length_le (by rw [List.length_drop]; omega)]
theorem headF_length (bs : List Int) (i : Nat) : (headF bs i).length = 4 := rfl
def A12 (fr : Int) (T : List (Int × List Int)) (F : List (Int × Bool)) (bl : List ByT.den) (lg : List LgT.den) (f : Int) (p : Bool) (b : List UInt8) (bs : List Int) : LoopAnn := {
  G := Nat
  I := fun i => ⟨[(0, .ptr 0 0), (1, .sl p 1 .byte b), (6, .int .i64 bs.length), (7, .sl true 8 (.int .i64) bs), (42, .sl true 8 (.int .i64) bs), (43, .int .i64 bs.length), (44, .int .i64 i)],
    pgH true fr T F (wrL bl ((wsF bs b).take i)) (lg ++ (wsF bs b).take i) (fuA f i) false⟩
  R := fun _ i => i ≤ bs.length ∧ (0 ≤ f → (i : Int) ≤ f)
  μ := fun i => bs.length - i }
theorem I12 (fr T F bl lg f p b bs) (i : Nat) : (A12 fr T F bl lg f p b bs).I i = ⟨[(0, .ptr 0 0), (1, .sl p 1 .byte b), (6, .int .i64 bs.length), (7, .sl true 8 (.int .i64) bs), (42, .sl true 8 (.int .i64) bs), (43, .int .i64 bs.length), (44, .int .i64 i)],
    pgH true fr T F (wrL bl ((wsF bs b).take i)) (lg ++ (wsF bs b).take i) (fuA f i) false⟩ := rfl
def B12 (fr : Int) (T : List (Int × List Int)) (F : List (Int × Bool)) (bl : List ByT.den) (lg : List LgT.den) (f : Int) (bs : List Int) : LoopAnn :=
  cntA (fun i => ⟨[(0, .ptr 0 0), (7, .sl true 8 (.int .i64) bs), (106, .sl true 8 (.int .i64) bs), (107, .int .i64 bs.length), (108, .int .i64 i)],
    pgH true fr T (delF F (bs.take i)) bl lg f false⟩) bs.length
/-- Put -/
def C12 : Contract := fun args hp K => match args with
  | [.nilp, x] => hp = [] ∧ onB x fun b => K (.tup [.int .i64 0, .int .i64 1]) []
  | [.ptr 0 0, x] => onPg hp fun fr T F bl lg f dn => onB x fun b => (dn = false ∧ F.length ≤ 1000000 ∧ T.length ≤ 1000000 ∧ (∀ e ∈ F, 0 ≤ e.1 ∧ e.1 < bl.length) ∧ bl.length ≤ 65536 ∧ lg.length ≤ 900000) ∧
      (20000 < b.length → K (.tup [.int .i64 0, .int .i64 4]) (pgH true fr T F bl lg f dn)) ∧
      (b.length ≤ 20000 → F.length < needN b.length → K (.tup [.int .i64 0, .int .i64 6]) (pgH true fr T F bl lg f dn)) ∧
      (b.length ≤ 20000 → needN b.length ≤ F.length →
        (f < 0 ∨ (needN b.length : Int) ≤ f → K (.tup [.int .i64 (elt (.int .i64) (takeF F b.length) 0), .int .i64 0])
          (pgH true fr (updT T (elt (.int .i64) (takeF F b.length) 0) (takeF F b.length)) (delF F (takeF F b.length)) (wrL bl (wsF (takeF F b.length) b)) (lg ++ wsF (takeF F b.length) b) (fuA f (needN b.length)) false)) ∧
        (0 ≤ f → f < (needN b.length : Int) → K (.tup [.int .i64 0, .int .i64 9]) (pgH true fr T F (wrL bl ((wsF (takeF F b.length) b).take f.toNat)) (lg ++ (wsF (takeF F b.length) b).take f.toNat) 0 true)))
  | _ => False
theorem s12 : Sound Try.prog 12 C12 := by
  refine sound_of_okF ok12 (Γ := [(15, C15), (29, C29), (30, C30)]) (.cons s15 (callable_of_okF ok15) (.cons s29 (callable_of_okF ok29) (.cons s30 (callable_of_okF ok30) .nil))) ?_
  intro args hp K h
  unfold C12 at h
  split at h
  · rename_i x
    obtain ⟨rfl, p, b, rfl, h⟩ := h
    refine ⟨by simp, [], ?_⟩
    simp (maxSteps := 2000000) only [a12, r12, go_sem, eq_self, and_self, Int.natCast_pos, Int.le_refl, Nat.le_refl, Int.natCast_nonneg, Int.ofNat_lt, Int.ofNat_le, Int.reduceLT, Int.reduceLE, Int.reduceEq, Int.reduceNe, Int.reduceAdd, Int.reduceSub, Int.reduceMul, Int.reduceToNat, Int.reduceNeg, Nat.reduceEqDiff, Nat.reduceLeDiff, Nat.reduceSub, Nat.reduceMul, Nat.reduceLT, Nat.reduceBEq, Nat.reduceAdd]
    rintro _ _ m rfl _ _ m1 hm1 _ _ m2 hm2 _ _ m3 hm3 m4 hm4
    exact h
  · rename_i x
    obtain ⟨fr, T, F, bl, lg, f, dn, rfl, p, b, rfl, ⟨hd, hF, hT, hFb, hbl, hlg⟩, h1, h2, h3⟩ := h
    subst hd
    refine ⟨by simp, [(1, A12 fr T F bl lg f p b (takeF F b.length)), (2, B12 fr T F (wrL bl (wsF (takeF F b.length) b)) (lg ++ wsF (takeF F b.length) b) (fuA f (needN b.length)) (takeF F b.length))], ?_⟩
    unfold pgH at h1 h2 h3 ⊢
    simp (maxSteps := 2000000) only [a12, r12, C15, pgH, go_sem, eq_self, and_self, Int.natCast_pos, Int.le_refl, Nat.le_refl, Int.natCast_nonneg, Int.ofNat_lt, Int.ofNat_le, Int.reduceLT, Int.reduceLE, Int.reduceEq, Int.reduceNe, Int.reduceAdd, Int.reduceSub, Int.reduceMul, Int.reduceToNat, Int.reduceNeg, Nat.reduceEqDiff, Nat.reduceLeDiff, Nat.reduceSub, Nat.reduceMul, Nat.reduceLT, Nat.reduceBEq, Nat.reduceAdd]
    have hmx := maxLen_val
    rintro _ hb8 m rfl _ _ m1 hm1 _ _ m2 hm2 _ _ m3 hm3 m4 hm4
    rw [w64 (by omega)] at hm1
    rw [w64 (by omega), hm1] at hm2
    have hq : m2.tdiv 238 = ((b.length + 237) / 238 : Nat) := by rw [Int.tdiv_eq_ediv_of_nonneg (by omega), hm2]; omega
    rw [hq, w64 (by omega)] at hm3
    have e4 : m4 = (needN b.length : Int) := by
      rw [hm4, hm3]; unfold needN; split <;> omega
    clear hm1 hm2 hm3 hm4 hq
    subst e4
    rintro _ _ m rfl
    refine swd (fun e => h1 (by omega)) (fun e1 => ?_)
    rintro _ m rfl
    refine swd (fun e => h2 (by omega) (by omega)) (fun e2 => ?_)
    obtain ⟨h4, h5⟩ := h3 (by omega) (by omega)
    clear h1 h2 h3
    have hbs : List.take ((needN b.length : Int).toNat - 0) (srtI (vt := .bool) F) = takeF F b.length := by rw [Int.toNat_natCast, Nat.sub_zero]; rfl
    have hbl2 : (takeF F b.length).length = needN b.length := by unfold takeF; rw [List.length_take, srtI_length]; omega
    have hbm : ∀ x ∈ takeF F b.length, 0 ≤ x ∧ x < bl.length := fun x hx => by
      obtain ⟨y, hy, rfl⟩ := srtI_mem (vt := .bool) (List.mem_of_mem_take hx)
      exact hFb y hy
    rw [hbs, ← hbl2]
    rw [← hbl2] at h4 h5
    have hn1 : 1 ≤ (takeF F b.length).length := by rw [hbl2]; unfold needN; omega
    have hn2 : b.length ≤ 238 * (takeF F b.length).length := by rw [hbl2]; unfold needN; omega
    have hn3 : 238 * ((takeF F b.length).length - 1) ≤ b.length := by rw [hbl2]; unfold needN; omega
    have hnF : (takeF F b.length).length ≤ F.length := by omega
    generalize takeF F b.length = bs at *
    refine And.intro hF (nd_intro ⟨by omega, by rw [srtI_length]; omega⟩ ?_)
    rintro _ _ m rfl
    refine loop_intro (A := A12 fr T F bl lg f p b bs) (0 : Nat) ?_ ⟨Nat.zero_le _, fun h => h⟩ ?_
    · simp (maxSteps := 2000000) only [I12, pgH, go_sem, eq_self, and_self, Int.natCast_pos, Int.le_refl, Nat.le_refl, Int.natCast_nonneg, Int.ofNat_lt, Int.ofNat_le, Int.reduceLT, Int.reduceLE, Int.reduceEq, Int.reduceNe, Int.reduceAdd, Int.reduceSub, Int.reduceMul, Int.reduceToNat, Int.reduceNeg, Nat.reduceEqDiff, Nat.reduceLeDiff, Nat.reduceSub, Nat.reduceMul, Nat.reduceLT, Nat.reduceBEq, Nat.reduceAdd]
      simp only [List.take_zero, List.append_nil, fuA]
      rw [show (if f < 0 then f else f - ((0 : Nat) : Int)) = f by split <;> omega]
      rfl
    · rintro (i : Nat) ⟨hi, hif⟩
      simp (maxSteps := 2000000) only [I12, pgH, C29, C30, dkH, go_sem, eq_self, and_self, Int.natCast_pos, Int.le_refl, Nat.le_refl, Int.natCast_nonneg, Int.ofNat_lt, Int.ofNat_le, Int.reduceLT, Int.reduceLE, Int.reduceEq, Int.reduceNe, Int.reduceAdd, Int.reduceSub, Int.reduceMul, Int.reduceToNat, Int.reduceNeg, Nat.reduceEqDiff, Nat.reduceLeDiff, Nat.reduceSub, Nat.reduceMul, Nat.reduceLT, Nat.reduceBEq, Nat.reduceAdd]
      refine swd (fun hlt => ?_) (fun hge => ?_)
      · have hw8 : ∀ x ∈ bs, 0 ≤ x ∧ x < bl.length := hbm
        refine nd_intro hlt (And.intro (by omega) ?_)
        refine swd (fun ei => ?_) (fun ei => ?_)
        focus
          refine nd_intro (by simp) ?_
          rintro _ _ m hm
          rw [w64 (by omega)] at hm
          subst hm
          refine swd (fun e3 => ?_) (fun e3 => ?_)
        rotate_left 2
        focus
          rintro _ _ m hm
          rw [w64 (by omega)] at hm
          subst hm
          refine swd (fun e3 => ?_) (fun e3 => ?_)
        focus
          rintro _ _ m hm
          rw [w64 (by omega)] at hm
          subst hm
          have ei1 : ((i : Int) + 1).toNat = i + 1 := by omega
          refine nd_intro (by omega) (nd_intro (by omega) ?_)
          rw [ei1]
          have hx := hbm _ (List.mem_of_getElem? (elt_get (t := .int .i64) (xs := bs) (m := i + 1) (by omega)))
          rintro _ _ m1 hm1
          rw [w64 (by omega)] at hm1
          rintro _ m2 hm2 _ _ m3 hm3 _ m4 hm4 _ _ m5 hm5 _ m6 hm6
          have hX : ((((List.replicate 4 Ty.byte.dflt).set 1 (UInt8.ofNat m2.toNat)).set 2 (UInt8.ofNat m4.toNat)).set 3 (UInt8.ofNat m6.toNat)) = headF bs i := by
            have hnx : nxF bs i = m1.toNat := by unfold nxF; rw [if_pos (by omega), hm1]
            unfold headF
            rw [hnx, hm2, byte0 (by omega), hm4, hm3, byte_of (by omega), hm6, hm5, byte_of (by omega)]
            rw [if_neg (by omega)]
            rfl
          rw [hX]
          refine nd_intro (by simp) (nd_intro (by simp) (nd_intro (by simp) (nd_intro (by simp) (nd_intro (by simp) (nd_intro (by simp) ?_)))))
          clear hX hm1 hm2 hm3 hm4 hm5 hm6 hx ei1
        rotate_left
        focus
          have hX : (List.replicate 4 Ty.byte.dflt) = headF bs i := by
            have hnx : nxF bs i = 0 := by unfold nxF; rw [if_neg (by omega)]
            unfold headF
            rw [hnx, if_neg (by omega)]
            rfl
          rw [hX]
          clear hX
        rotate_left
        focus
          rintro _ _ m hm
          rw [w64 (by omega)] at hm
          subst hm
          have ei1 : ((i : Int) + 1).toNat = i + 1 := by omega
          refine nd_intro (by omega) (nd_intro (by omega) ?_)
          rw [ei1]
          have hx := hbm _ (List.mem_of_getElem? (elt_get (t := .int .i64) (xs := bs) (m := i + 1) (by omega)))
          rintro _ _ m1 hm1
          rw [w64 (by omega)] at hm1
          rintro _ m2 hm2 _ _ m3 hm3 _ m4 hm4 _ _ m5 hm5 _ m6 hm6
          have hX : (((((List.replicate 4 Ty.byte.dflt).set 0 (UInt8.ofNat 1)).set 1 (UInt8.ofNat m2.toNat)).set 2 (UInt8.ofNat m4.toNat)).set 3 (UInt8.ofNat m6.toNat)) = headF bs i := by
            have hnx : nxF bs i = m1.toNat := by unfold nxF; rw [if_pos (by omega), hm1]
            unfold headF
            rw [hnx, hm2, byte0 (by omega), hm4, hm3, byte_of (by omega), hm6, hm5, byte_of (by omega)]
            rw [if_pos (by omega)]
            rfl
          rw [hX]
          refine nd_intro (by simp) (nd_intro (by simp) (nd_intro (by simp) (nd_intro (by simp) (nd_intro (by simp) (nd_intro (by simp) ?_)))))
          clear hX hm1 hm2 hm3 hm4 hm5 hm6 hx ei1
        rotate_left
        focus
          have hX : ((List.replicate 4 Ty.byte.dflt).set 0 (UInt8.ofNat 1)) = headF bs i := by
            have hnx : nxF bs i = 0 := by unfold nxF; rw [if_neg (by omega)]
            unfold headF
            rw [hnx, if_pos (by omega)]
            rfl
          rw [hX]
          clear hX
        rotate_left
        all_goals clear ei e3
        all_goals rintro _ _ m hm _ _ m1 hm1 _ _ m2 hm2 _ _ m3 rfl m4 hm4
        all_goals rw [w64 (by omega)] at hm hm1
        all_goals rw [w64 (by omega), hm1] at hm2
        all_goals have e4 : m4 = ((min (238 * (i + 1)) b.length : Nat) : Int) := by rw [hm4, hm2]; split <;> omega
        all_goals have em : m = ((238 * i : Nat) : Int) := by omega
        all_goals clear hm hm1 hm2 hm4
        all_goals subst e4 em
        all_goals have hi2 : 238 * i ≤ b.length := Nat.le_trans (Nat.mul_le_mul_left 238 (by omega)) hn3
        all_goals refine nd_intro (by omega) ?_
        all_goals intro ys hys
        all_goals rw [Int.toNat_natCast, Int.toNat_natCast, part_eq] at hys
        all_goals subst hys
        all_goals have hx0 := hbm _ (List.mem_of_getElem? (elt_get (t := .int .i64) (xs := bs) (m := i) hlt))
        all_goals have hpl := partF_length b i
        all_goals have hhl := headF_length bs i
        all_goals have hhp : (headF bs i ++ partF b i).length ≤ 242 := by rw [List.length_append]; omega
        all_goals rintro _ m5 hm5
        all_goals rw [wu32 (by omega)] at hm5
        all_goals subst hm5
        all_goals refine And.intro (fun _ _ => by omega) (fun _ => And.intro rfl (And.intro hhp (And.intro ⟨by omega, by omega⟩ (And.intro rfl (And.intro ⟨hx0.1, by rw [wrL_length]; exact hx0.2, sealF_length hhp, by rw [List.length_append, List.length_take, wsF_length]; omega⟩ (And.intro (fun e => by cases e) (And.intro (fun e0 => ?_) (fun e0 => ?_))))))))
        all_goals first
          | (have hfi : f = i := by unfold fuA at e0; split at e0 <;> omega
             have := h5 (by omega) (by omega)
             rw [hfi, Int.toNat_natCast] at this
             rw [e0]
             exact this)
          | (rintro _ _ m6 hm6
             rw [w64 (by omega)] at hm6
             subst hm6
             have e7 : (if 0 < fuA f i then fuA f i - 1 else fuA f i) = fuA f (i + 1) := by
               unfold fuA at e0 ⊢
               by_cases hf : f < 0
               · simp only [if_pos hf]; split <;> omega
               · simp only [if_neg hf] at e0 ⊢; have := hif (by omega); split <;> omega
             refine lpE_intro (A := A12 fr T F bl lg f p b bs) (i + 1 : Nat) ?_ ⟨hlt, ?_⟩ ?_
             · simp (maxSteps := 2000000) only [I12, pgH, go_sem, eq_self, and_self, Int.natCast_pos, Int.le_refl, Nat.le_refl, Int.natCast_nonneg, Int.ofNat_lt, Int.ofNat_le, Int.reduceLT, Int.reduceLE, Int.reduceEq, Int.reduceNe, Int.reduceAdd, Int.reduceSub, Int.reduceMul, Int.reduceToNat, Int.reduceNeg, Nat.reduceEqDiff, Nat.reduceLeDiff, Nat.reduceSub, Nat.reduceMul, Nat.reduceLT, Nat.reduceBEq, Nat.reduceAdd]
               rw [e7, ← take_snoc (wsF_get hlt), wrL_snoc, List.append_assoc]
               rfl
             · intro hf
               have := hif hf
               unfold fuA at e0
               rw [if_neg (by omega)] at e0
               omega
             · show bs.length - (i + 1) < bs.length - i
               omega)
      · have hi2 : i = bs.length := by omega
        subst hi2
        rw [List.take_of_length_le (by rw [wsF_length]; exact Nat.le_refl _)]
        have h6 := h4 (by by_cases hf : f < 0; exact .inl hf; exact .inr (hif (by omega)))
        rintro _ _ m rfl
        refine loop_intro (A := B12 fr T F (wrL bl (wsF bs b)) (lg ++ wsF bs b) (fuA f bs.length) bs) (0 : Nat) ?_ (Nat.zero_le _) ?_
        · simp (maxSteps := 2000000) only [B12, cntA_I, pgH, go_sem, eq_self, and_self, Int.natCast_pos, Int.le_refl, Nat.le_refl, Int.natCast_nonneg, Int.ofNat_lt, Int.ofNat_le, Int.reduceLT, Int.reduceLE, Int.reduceEq, Int.reduceNe, Int.reduceAdd, Int.reduceSub, Int.reduceMul, Int.reduceToNat, Int.reduceNeg, Nat.reduceEqDiff, Nat.reduceLeDiff, Nat.reduceSub, Nat.reduceMul, Nat.reduceLT, Nat.reduceBEq, Nat.reduceAdd]
          rfl
        · intro (k : Nat) (hk : k ≤ bs.length)
          simp (maxSteps := 2000000) only [B12, cntA_I, pgH, go_sem, eq_self, and_self, Int.natCast_pos, Int.le_refl, Nat.le_refl, Int.natCast_nonneg, Int.ofNat_lt, Int.ofNat_le, Int.reduceLT, Int.reduceLE, Int.reduceEq, Int.reduceNe, Int.reduceAdd, Int.reduceSub, Int.reduceMul, Int.reduceToNat, Int.reduceNeg, Nat.reduceEqDiff, Nat.reduceLeDiff, Nat.reduceSub, Nat.reduceMul, Nat.reduceLT, Nat.reduceBEq, Nat.reduceAdd]
          refine swd (fun hlt2 => ?_) (fun hge2 => ?_)
          · refine nd_intro hlt2 ?_
            rintro _ _ m hm
            rw [w64 (by omega)] at hm
            subst hm
            refine cntA_next hlt2 ?_
            simp (maxSteps := 2000000) only [go_sem, eq_self, and_self, Int.natCast_pos, Int.le_refl, Nat.le_refl, Int.natCast_nonneg, Int.ofNat_lt, Int.ofNat_le, Int.reduceLT, Int.reduceLE, Int.reduceEq, Int.reduceNe, Int.reduceAdd, Int.reduceSub, Int.reduceMul, Int.reduceToNat, Int.reduceNeg, Nat.reduceEqDiff, Nat.reduceLeDiff, Nat.reduceSub, Nat.reduceMul, Nat.reduceLT, Nat.reduceBEq, Nat.reduceAdd]
            rw [← take_elt (t := .int .i64) hlt2, delF_snoc]
            rfl
          · have hk2 : k = bs.length := by omega
            subst hk2
            rw [List.take_length]
            exact nd_intro (by omega) (And.intro (by omega) (nd_intro (by omega) h6))
  · exact h.elim
end Go.V
namespace Go.V
open Go.Proofs
set_option maxRecDepth 100000
set_option linter.unusedSimpArgs false
set_option linter.unnecessarySimpa false
set_option linter.unusedVariables false
/-- text: of an operation's bytes, so many times over. -/
def txS (B : List UInt8) (b : List UInt8) : List UInt8 := if b.length + B.length ≤ 6000 then b ++ B else b
def txN (B : List UInt8) : Nat → List UInt8
  | 0 => []
  | n + 1 => txS B (txN B n)
def txF (n : Int) (B : List UInt8) : List UInt8 := txN B (min (max n 0) 60).toNat
theorem txN_length (B : List UInt8) : ∀ n, (txN B n).length ≤ 6000
  | 0 => Nat.zero_le _
  | n + 1 => by
    have := txN_length B n
    show (txS B (txN B n)).length ≤ 6000
    unfold txS
    split
    · rw [List.length_append]; assumption
    · exact this
theorem txF_length (n : Int) (B : List UInt8) : (txF n B).length ≤ 6000 := txN_length B _
def A16 (k n : Int) (p : Bool) (B : List UInt8) (m : Int) : LoopAnn := cntA (fun i => ⟨[(1, .ptr 0 0), (3, .own 1), (7, .int .i64 m), (8, .int .i64 i)], [.struct [.int .i64 k, .int .i64 n, .sl p 1 .byte B], .row true 1 .byte (txN B i)]⟩) m.toNat
def C16 : Contract := fun args hp K => match args, hp with
  | [.agg [.int .i64 k, .int .i64 n, x]], [] => onB x fun B => K (.own 0) [.row true 1 .byte (txF n B)]
  | _, _ => False
theorem s16 : Sound Try.prog 16 C16 := by
  refine sound_of_okF ok16 (Γ := []) .nil ?_
  intro args hp K h
  unfold C16 at h
  split at h
  · rename_i k n x
    obtain ⟨p, B, rfl, h⟩ := h
    refine ⟨by simp, [(1, A16 k n p B (min (max n 0) 60))], ?_⟩
    simp (maxSteps := 2000000) only [a16, r16, go_sem, eq_self, and_self, Int.natCast_pos, Int.le_refl, Nat.le_refl, Int.natCast_nonneg, Int.ofNat_lt, Int.ofNat_le, Int.reduceLT, Int.reduceLE, Int.reduceEq, Int.reduceNe, Int.reduceAdd, Int.reduceSub, Int.reduceMul, Int.reduceToNat, Int.reduceNeg, Nat.reduceEqDiff, Nat.reduceLeDiff, Nat.reduceSub, Nat.reduceMul, Nat.reduceLT, Nat.reduceBEq, Nat.reduceAdd]
    rintro m hm m1 hm1
    have e : m1 = min (max n 0) 60 := by rw [hm1, hm]; split <;> split <;> omega
    clear hm hm1
    subst e
    have hm0 : 0 ≤ min (max n 0) 60 ∧ min (max n 0) 60 ≤ 60 := by omega
    unfold txF at h
    generalize min (max n 0) 60 = m at *
    refine loop_intro (A := A16 k n p B m) (0 : Nat) ?_ (Nat.zero_le _) ?_
    · simp (maxSteps := 2000000) only [A16, cntA_I, go_sem, eq_self, and_self, Int.natCast_pos, Int.le_refl, Nat.le_refl, Int.natCast_nonneg, Int.ofNat_lt, Int.ofNat_le, Int.reduceLT, Int.reduceLE, Int.reduceEq, Int.reduceNe, Int.reduceAdd, Int.reduceSub, Int.reduceMul, Int.reduceToNat, Int.reduceNeg, Nat.reduceEqDiff, Nat.reduceLeDiff, Nat.reduceSub, Nat.reduceMul, Nat.reduceLT, Nat.reduceBEq, Nat.reduceAdd]
      rfl
    · intro (i : Nat) (hi : i ≤ m.toNat)
      simp (maxSteps := 2000000) only [A16, cntA_I, go_sem, eq_self, and_self, Int.natCast_pos, Int.le_refl, Nat.le_refl, Int.natCast_nonneg, Int.ofNat_lt, Int.ofNat_le, Int.reduceLT, Int.reduceLE, Int.reduceEq, Int.reduceNe, Int.reduceAdd, Int.reduceSub, Int.reduceMul, Int.reduceToNat, Int.reduceNeg, Nat.reduceEqDiff, Nat.reduceLeDiff, Nat.reduceSub, Nat.reduceMul, Nat.reduceLT, Nat.reduceBEq, Nat.reduceAdd]
      have hl := txN_length B i
      refine swd (fun hlt => ?_) (fun hge => ?_)
      · rintro _ _ m2 rfl _ hBl m3 rfl _ _ m4 hm4
        rw [w64 (by omega)] at hm4
        subst hm4
        refine swd (fun e => ?_) (fun e => ?_)
        · refine And.intro (fun _ _ => by omega) (fun _ => ?_)
          rintro _ _ m5 hm5
          rw [w64 (by omega)] at hm5
          subst hm5
          refine cntA_next (by omega) ?_
          simp (maxSteps := 2000000) only [go_sem, eq_self, and_self, Int.natCast_pos, Int.le_refl, Nat.le_refl, Int.natCast_nonneg, Int.ofNat_lt, Int.ofNat_le, Int.reduceLT, Int.reduceLE, Int.reduceEq, Int.reduceNe, Int.reduceAdd, Int.reduceSub, Int.reduceMul, Int.reduceToNat, Int.reduceNeg, Nat.reduceEqDiff, Nat.reduceLeDiff, Nat.reduceSub, Nat.reduceMul, Nat.reduceLT, Nat.reduceBEq, Nat.reduceAdd]
          have e2 : txN B i ++ B = txN B (i + 1) := by
            show _ = txS B (txN B i)
            unfold txS
            rw [if_pos (by omega)]
          rw [e2]
          rfl
        · rintro _ _ m5 hm5
          rw [w64 (by omega)] at hm5
          subst hm5
          refine cntA_next (by omega) ?_
          simp (maxSteps := 2000000) only [go_sem, eq_self, and_self, Int.natCast_pos, Int.le_refl, Nat.le_refl, Int.natCast_nonneg, Int.ofNat_lt, Int.ofNat_le, Int.reduceLT, Int.reduceLE, Int.reduceEq, Int.reduceNe, Int.reduceAdd, Int.reduceSub, Int.reduceMul, Int.reduceToNat, Int.reduceNeg, Nat.reduceEqDiff, Nat.reduceLeDiff, Nat.reduceSub, Nat.reduceMul, Nat.reduceLT, Nat.reduceBEq, Nat.reduceAdd]
          have e2 : txN B i = txN B (i + 1) := by
            show _ = txS B (txN B i)
            unfold txS
            rw [if_neg (by omega)]
          rw [← e2]
          rfl
      · have : i = m.toNat := by omega
        subst this
        exact h
  · exact h.elim

end Go.V
namespace Go.V
open Go.Proofs
set_option maxRecDepth 100000
set_option linter.unusedSimpArgs false
set_option linter.unnecessarySimpa false
set_option linter.unusedVariables false
end Go.V
namespace Go.V
set_option maxRecDepth 100000
set_option linter.unusedSimpArgs false
set_option linter.unnecessarySimpa false
set_option linter.unusedVariables false
/-! ### sealed blocks -/
theorem openF_seal {kd : UInt8} {pl : Nat} {p : List UInt8} (h : p.length ≤ 242) : openF kd pl (sealF kd pl p) = some p := by
  have h1 := sealF_length (kd := kd) (pl := pl) h
  have e : sealF kd pl p = (bytesB 8 (sumF (sBody kd pl p)).toNat ++ (kd :: bytesB 4 pl)) ++ (UInt8.ofNat p.length :: (p ++ List.replicate (242 - p.length) 0)) := by
    unfold sealF sBody
    simp
  have hl : (bytesB 8 (sumF (sBody kd pl p)).toNat ++ (kd :: bytesB 4 pl)).length = 13 := by simp [bytesB_length]
  have h13 : elt .byte (sealF kd pl p) 13 = UInt8.ofNat p.length := by
    apply elt_eq (t := .byte)
    rw [e, List.getElem?_append_right (by rw [hl]; exact Nat.le_refl _), hl]
    rfl
  have hn : (elt .byte (sealF kd pl p) 13).toNat = p.length := by
    rw [h13]; simp; omega
  have hd : ((sealF kd pl p).drop 14).take p.length = p := by
    rw [e, List.drop_append, hl, List.drop_of_length_le (by omega), List.nil_append]
    show (List.drop 1 (UInt8.ofNat p.length :: (p ++ _))).take p.length = p
    rw [List.drop_succ_cons, List.drop_zero, List.take_append_of_le_length (Nat.le_refl _), List.take_length]
  unfold openF
  rw [hn, hd, if_pos ⟨h1, h⟩, if_pos rfl]

/-! ### writes -/
theorem elt_set_ne {t : Ty} {l : List t.den} {i j : Nat} {x : t.den} (h : i ≠ j) : elt t (l.set i x) j = elt t l j := by
  unfold elt
  rw [List.getD_eq_getElem?_getD, List.getD_eq_getElem?_getD, List.getElem?_set_ne h]
theorem elt_set_eq {t : Ty} {l : List t.den} {i : Nat} {x : t.den} (h : i < l.length) : elt t (l.set i x) i = x := elt_eq (List.getElem?_set_self h)
theorem wrL_other (ws : List LgT.den) : ∀ (bl : List ByT.den) (a : Nat), (∀ w ∈ ws, w.1.toNat ≠ a) → elt ByT (wrL bl ws) a = elt ByT bl a := by
  induction ws with
  | nil => intro bl a _; rfl
  | cons w r ih =>
    intro bl a h
    show elt ByT (wrL (bl.set w.1.toNat w.2) r) a = _
    rw [ih _ _ (fun x hx => h x (List.mem_cons_of_mem _ hx)), elt_set_ne (h w (by simp))]
theorem wsF_take_mem {bs : List Int} {c : List UInt8} {k : Nat} {w : LgT.den} (h : w ∈ (wsF bs c).take k) : w.1 ∈ bs := by
  have := List.mem_of_mem_take h
  unfold wsF at this
  obtain ⟨i, hi, rfl⟩ := List.mem_map.1 this
  exact List.mem_of_getElem? (elt_get (t := .int .i64) (List.mem_range.1 hi))
theorem elt_inj {l : List Int} (h : l.Nodup) {i j : Nat} (hi : i < l.length) (hj : j < l.length) (he : elt (.int .i64) l i = elt (.int .i64) l j) : i = j := by
  have h1 := elt_get (t := .int .i64) hi
  have h2 := elt_get (t := .int .i64) hj
  rw [he] at h1
  obtain ⟨a1, a2⟩ := List.getElem?_eq_some_iff.1 h1
  obtain ⟨b1, b2⟩ := List.getElem?_eq_some_iff.1 h2
  have h3 := List.pairwise_iff_getElem.1 h
  rcases Nat.lt_trichotomy i j with hij | hij | hij
  · exact absurd (a2.trans b2.symm) (h3 i j a1 b1 hij)
  · exact hij
  · exact absurd (b2.trans a2.symm) (h3 j i b1 a1 hij)
theorem wrL_at {bs : List Int} {c : List UInt8} (hn : bs.Nodup) {bl : List ByT.den} (hb : ∀ b ∈ bs, 0 ≤ b ∧ b < bl.length) : ∀ (k i : Nat), k ≤ bs.length → i < k →
    elt ByT (wrL bl ((wsF bs c).take k)) (Int.toNat (elt (.int .i64) bs i)) = blkF bs c i
  | 0, i, _, h => absurd h (Nat.not_lt_zero _)
  | k + 1, i, hk, h => by
    have hkl : k < bs.length := hk
    rw [← take_snoc (wsF_get hkl), wrL_snoc]
    have hbk := hb _ (List.mem_of_getElem? (elt_get (t := .int .i64) hkl))
    by_cases hik : i = k
    · subst hik
      exact elt_set_eq (t := ByT) (by rw [wrL_length]; omega)
    · have hbi := hb _ (List.mem_of_getElem? (elt_get (t := .int .i64) (xs := bs) (m := i) (by omega)))
      rw [elt_set_ne (t := ByT) (fun e => hik (elt_inj hn (by omega) hkl (by
        have e' : Int.toNat (elt (.int .i64) bs k) = Int.toNat (elt (.int .i64) bs i) := e
        show @Eq Int _ _
        omega)))]
      exact wrL_at hn hb k i (by omega) (by omega)

/-! ### chains -/
structure Chain (bl : List ByT.den) (bs : List Int) (c : List UInt8) : Prop where
  len : bs.length = needN c.length
  sz : c.length ≤ 20000
  nd : bs.Nodup
  mem : ∀ b ∈ bs, 0 ≤ b ∧ b < bl.length
  op : ∀ i, i < bs.length → opB bl (elt (.int .i64) bs i) = some (headF bs i ++ partF c i)

theorem Chain.keep {bl : List ByT.den} {bs : List Int} {c : List UInt8} (h : Chain bl bs c) {ws : List LgT.den} (hw : ∀ w ∈ ws, 0 ≤ w.1 ∧ w.1 ∉ bs) : Chain (wrL bl ws) bs c := by
  refine ⟨h.len, h.sz, h.nd, fun b hb => by rw [wrL_length]; exact h.mem b hb, fun i hi => ?_⟩
  rw [← h.op i hi]
  unfold opB
  have hb := List.mem_of_getElem? (elt_get (t := .int .i64) hi)
  rw [wrL_other]
  intro w hw' e
  obtain ⟨h1, h2⟩ := hw w hw'
  have h3 := h.mem _ hb
  exact h2 (by
    have : @Eq Int w.1 (elt (.int .i64) bs i) := by
      have e' : Int.toNat w.1 = Int.toNat (elt (.int .i64) bs i) := e
      have h1' : (0 : Int) ≤ w.1 := h1
      omega
    rw [this]; exact hb)
theorem Chain.put {bl : List ByT.den} {bs : List Int} {c : List UInt8} (hl : bs.length = needN c.length) (hs : c.length ≤ 20000) (hn : bs.Nodup) (hb : ∀ b ∈ bs, 0 ≤ b ∧ b < bl.length) : Chain (wrL bl (wsF bs c)) bs c := by
  refine ⟨hl, hs, hn, fun b hb' => by rw [wrL_length]; exact hb b hb', fun i hi => ?_⟩
  have h1 := wrL_at (c := c) hn hb bs.length i (Nat.le_refl _) hi
  rw [List.take_of_length_le (by rw [wsF_length]; exact Nat.le_refl _)] at h1
  unfold opB
  rw [h1]
  unfold blkF
  exact openF_seal (by rw [List.length_append, headF_length]; have := partF_length c i; omega)
theorem part_take (c : List UInt8) (i : Nat) : c.take (238 * i) ++ partF c i = c.take (238 * (i + 1)) := by
  unfold partF
  rw [show 238 * (i + 1) = 238 * i + 238 by omega, List.take_add]
theorem needN_bound (n : Nat) : n ≤ 238 * needN n ∧ (n ≤ 20000 → needN n ≤ 85) ∧ 1 ≤ needN n := by unfold needN; omega
theorem Chain.get {bl : List ByT.den} {bs : List Int} {c : List UInt8} (h : Chain bl bs c) : bs.flatMap (pl4 bl) = c := by
  have key : ∀ i, i ≤ bs.length → (bs.take i).flatMap (pl4 bl) = c.take (238 * i) := by
    intro i
    induction i with
    | zero => intro _; simp
    | succ i ih =>
      intro hi
      have hi' : i < bs.length := hi
      rw [← take_elt (t := .int .i64) hi', List.flatMap_append, ih (by omega), ← part_take]
      congr 1
      simp only [List.flatMap_cons, List.flatMap_nil, List.append_nil]
      unfold pl4
      rw [h.op i hi', Option.getD_some, List.drop_append, List.drop_of_length_le (by rw [headF_length]; exact Nat.le_refl _), headF_length]
      simp
  have := key bs.length (Nat.le_refl _)
  rw [List.take_length] at this
  rw [this, List.take_of_length_le (by rw [h.len]; exact (needN_bound _).1)]
theorem Chain.rd {bl : List ByT.den} {bs : List Int} {c : List UInt8} (h : Chain bl bs c) (hbl : bl.length ≤ 65536) : ∀ b ∈ bs, rdOk bl b := by
  intro b hb
  have h1 := h.mem b hb
  refine ⟨⟨h1.1, h1.2, by omega⟩, ?_⟩
  obtain ⟨i, hi, e⟩ := List.getElem_of_mem hb
  have h2 := h.op i hi
  have e2 : elt (.int .i64) bs i = b := elt_eq (t := .int .i64) (by rw [List.getElem?_eq_getElem hi, e])
  rw [e2] at h2
  exact ⟨_, h2, by rw [List.length_append, headF_length]; omega⟩
theorem u8n (n : Nat) : (UInt8.ofNat n).toNat = n % 256 := by simp
theorem nextF_head {bs : List Int} {i : Nat} {q : List UInt8} (h : nxF bs i < 16777216) : nextF (headF bs i ++ q) = nxF bs i := by
  unfold nextF
  have e1 : elt .byte (headF bs i ++ q) 1 = UInt8.ofNat (nxF bs i) := rfl
  have e2 : elt .byte (headF bs i ++ q) 2 = UInt8.ofNat (nxF bs i / 256) := rfl
  have e3 : elt .byte (headF bs i ++ q) 3 = UInt8.ofNat (nxF bs i / 65536) := rfl
  rw [e1, e2, e3, u8n, u8n, u8n]
  omega
theorem Chain.text {bl : List ByT.den} {bs : List Int} {c : List UInt8} {fr ct : Int} (h : Chain bl bs c) (hbl : bl.length ≤ 65536) (ha : ∀ b ∈ bs, fr ≤ b ∧ b < fr + ct) :
    textF bl fr ct (elt (.int .i64) bs 0) 86 (elt (.int .i64) bs 0) [] [] = some (c, bs) := by
  have hnb := needN_bound c.length
  have hlen := h.len
  have h85 := hnb.2.1 h.sz
  have key : ∀ m i, i + m = bs.length → 1 ≤ m → textF bl fr ct (elt (.int .i64) bs 0) (86 - i) (elt (.int .i64) bs i) (c.take (238 * i)) (bs.take i) = some (c, bs) := by
    intro m
    induction m with
    | zero => intro i _ h; omega
    | succ m ih =>
      intro i him _
      have hi : i < bs.length := by omega
      obtain ⟨n, hn⟩ : ∃ n, 86 - i = n + 1 := ⟨85 - i, by omega⟩
      have hb := List.mem_of_getElem? (elt_get (t := .int .i64) hi)
      have hr := ha _ hb
      have hop := h.op i hi
      rw [hn, textF, if_neg (by
        rw [List.length_take]
        rintro (q | q | q)
        · exact absurd hr.1 (Int.not_le.2 q)
        · exact absurd hr.2 (Int.not_lt.2 q)
        · omega), hop]
      simp only
      have h0 : (elt .byte (headF bs i ++ partF c i) 0 = 1) ↔ elt (.int .i64) bs i = elt (.int .i64) bs 0 := by
        have e0 : elt .byte (headF bs i ++ partF c i) 0 = if i = 0 then 1 else 0 := rfl
        rw [e0]
        by_cases hz : i = 0
        · subst hz; simp
        · rw [if_neg hz]
          constructor
          · intro e; cases e
          · intro e; exact absurd (elt_inj h.nd hi (by omega) e) hz
      have hpl : 4 ≤ (headF bs i ++ partF c i).length := by rw [List.length_append, headF_length]; omega
      rw [if_neg (by rintro (q | q); omega; exact q h0)]
      have hdr : (headF bs i ++ partF c i).drop 4 = partF c i := by
        rw [List.drop_append, List.drop_of_length_le (by rw [headF_length]; exact Nat.le_refl _), headF_length]
        simp
      rw [hdr, part_take, take_elt (t := .int .i64) hi]
      by_cases hlast : i + 1 < bs.length
      · have hnx : nxF bs i = (elt (.int .i64) bs (i + 1) + 1).toNat := by unfold nxF; rw [if_pos hlast]
        have hb2 := List.mem_of_getElem? (elt_get (t := .int .i64) hlast)
        obtain ⟨h3, h4⟩ := h.mem _ hb2
        have hnl : nxF bs i < 16777216 := by rw [hnx]; omega
        have hne : nextF (headF bs i ++ partF c i) = elt (.int .i64) bs (i + 1) + 1 := by
          rw [nextF_head hnl, hnx]; omega
        rw [hne, if_neg (fun q : @Eq Int _ _ => by omega)]
        have e1 : elt (.int .i64) bs (i + 1) + 1 - 1 = elt (.int .i64) bs (i + 1) := Int.add_sub_cancel _ _
        rw [e1, if_neg]
        · have := ih (i + 1) (by omega) (by omega)
          rw [show 86 - (i + 1) = n by omega] at this
          exact this
        · intro hin
          obtain ⟨j, hj, e⟩ := List.getElem_of_mem hin
          rw [List.length_take] at hj
          rw [List.getElem_take] at e
          have e2 : elt (.int .i64) bs j = elt (.int .i64) bs (i + 1) := elt_eq (t := .int .i64) (by rw [List.getElem?_eq_getElem (by omega), e])
          have := elt_inj h.nd (by omega) hlast e2
          omega
      · have hnx : nxF bs i = 0 := by unfold nxF; rw [if_neg hlast]
        rw [nextF_head (by rw [hnx]; omega), hnx, if_pos Int.natCast_zero, List.take_of_length_le (by rw [show i + 1 = bs.length by omega, hlen]; exact hnb.1), List.take_of_length_le (by omega)]
  have := key bs.length 0 (by omega) (by omega)
  exact this
end Go.V
namespace Go.V
set_option maxRecDepth 100000
set_option linter.unusedSimpArgs false
set_option linter.unnecessarySimpa false
set_option linter.unusedVariables false
/-! ### maps of integers -/
section
variable {vt : Ty}
theorem beq_int (a b : Int) : Ty.beq (.int .i64) a b = decide (a = b) := rfl
theorem lookI_some {m : List (Int × vt.den)} (hn : (m.map Prod.fst).Nodup) {k : Int} {v : vt.den} (h : (k, v) ∈ m) : lookM (.int .i64) vt m k = some v := by
  induction m with
  | nil => cases h
  | cons x r ih =>
    simp only [List.map_cons, List.nodup_cons] at hn
    unfold lookM at ih ⊢
    rw [List.find?_cons]
    rcases List.mem_cons.1 h with h | h
    · subst h
      simp [beq_int]
    · have hne : x.1 ≠ k := fun e => hn.1 (by rw [e]; exact List.mem_map_of_mem h)
      rw [beq_int, decide_eq_false hne]
      exact ih hn.2 h
theorem lookI_none {m : List (Int × vt.den)} {k : Int} (h : k ∉ m.map Prod.fst) : lookM (.int .i64) vt m k = none := by
  unfold lookM
  rw [List.find?_eq_none.2]
  · rfl
  · intro x hx
    rw [beq_int]
    intro e
    exact h (by rw [← of_decide_eq_true e]; exact List.mem_map_of_mem hx)
theorem updI_new {m : List (Int × vt.den)} {k : Int} {v : vt.den} (h : k ∉ m.map Prod.fst) : updM (.int .i64) vt m k v = m ++ [(k, v)] := by
  induction m with
  | nil => rfl
  | cons x r ih =>
    simp only [List.map_cons, List.mem_cons, not_or] at h
    simp only [updM, beq_int]
    rw [decide_eq_false (fun e => h.1 e.symm), cond_false, ih h.2]
    rfl
theorem delI_eq (m : List (Int × vt.den)) (k : Int) : delM (.int .i64) vt m k = m.filter fun e => decide (e.1 ≠ k) := by
  unfold delM
  congr 1
  funext e
  rw [beq_int]
  simp
end
def ksF (F : List (Int × Bool)) : List Int := F.map Prod.fst
theorem ksF_del (F : List (Int × Bool)) (b : Int) : ksF (delM (.int .i64) .bool F b) = (ksF F).filter fun x => decide (x ≠ b) := by
  rw [delI_eq]
  unfold ksF
  rw [List.filter_map]
  rfl
theorem ksF_delF (bs : List Int) : ∀ F, ksF (delF F bs) = (ksF F).filter fun x => decide (x ∉ bs) := by
  induction bs with
  | nil => intro F; show ksF F = _; rw [List.filter_eq_self.2 (fun _ _ => decide_eq_true (by simp))]
  | cons b r ih =>
    intro F
    show ksF (delF (delM (.int .i64) .bool F b) r) = _
    rw [ih, ksF_del, List.filter_filter]
    congr 1
    funext x
    simp only [List.mem_cons, not_or]
    rw [← Bool.decide_and]
    exact decide_eq_decide.2 ⟨fun h => ⟨h.2, h.1⟩, fun h => ⟨h.2, h.1⟩⟩
theorem delF_tru {F : List (Int × Bool)} (h : ∀ x ∈ F, x.2 = true) (bs : List Int) : ∀ x ∈ delF F bs, x.2 = true := by
  induction bs generalizing F with
  | nil => exact h
  | cons b r ih =>
    refine ih (F := delM (.int .i64) .bool F b) ?_
    intro x hx
    rw [delI_eq, List.mem_filter] at hx
    exact h x hx.1
theorem perm_split {l bs : List Int} (hl : l.Nodup) (hb : bs.Nodup) (hs : ∀ b ∈ bs, b ∈ l) : ((l.filter fun x => decide (x ∉ bs)) ++ bs).Perm l := by
  refine (List.perm_ext_iff_of_nodup ?_ hl).2 fun x => ?_
  · refine List.nodup_append.2 ⟨List.Pairwise.filter _ hl, hb, fun a ha b hb' e => ?_⟩
    rw [List.mem_filter] at ha
    exact of_decide_eq_true ha.2 (e ▸ hb')
  · rw [List.mem_append, List.mem_filter]
    constructor
    · rintro (h | h)
      · exact h.1
      · exact hs x h
    · intro h
      by_cases hx : x ∈ bs
      · exact .inr hx
      · exact .inl ⟨h, decide_eq_true hx⟩

/-! ### what is kept -/
structure PE where
  n : Int
  bs : List Int
  c : List UInt8
def tOf (L : List PE) : List (Int × List Int) := L.map fun e => (e.n, e.bs)
def nOf (L : List PE) : List Int := L.map PE.n
def bOf (L : List PE) : List Int := L.flatMap PE.bs
def EOk (bl : List ByT.den) (e : PE) : Prop := Chain bl e.bs e.c ∧ elt (.int .i64) e.bs 0 = e.n
structure Inv (fr ct : Int) (bl : List ByT.den) (L : List PE) (F : List (Int × Bool)) : Prop where
  f0 : 0 ≤ fr
  c1 : 1 ≤ ct
  hb : fr + ct ≤ bl.length
  sz : bl.length ≤ 65536
  ent : ∀ e ∈ L, EOk bl e
  tru : ∀ x ∈ F, x.2 = true
  perm : (ksF F ++ bOf L).Perm (areaL fr ct ct.toNat)

theorem areaL_mem {fr ct : Int} {n : Nat} {x : Int} : x ∈ areaL fr ct n ↔ fr ≤ x ∧ x < fr + n := by
  unfold areaL
  rw [List.mem_map]
  constructor
  · rintro ⟨i, hi, rfl⟩
    rw [List.mem_range] at hi
    omega
  · intro h
    exact ⟨(x - fr).toNat, List.mem_range.2 (by omega), by omega⟩
theorem areaL_nodup (fr ct : Int) (n : Nat) : (areaL fr ct n).Nodup := by
  unfold areaL
  refine List.pairwise_map.2 (List.nodup_range.imp fun {a b} h e => h ?_)
  omega
theorem addF_new (bs : List Int) : ∀ F, (ksF F ++ bs).Nodup → addF F bs = F ++ bs.map fun b => (b, true) := by
  induction bs with
  | nil => intro F _; simp [addF]
  | cons b r ih =>
    intro F h
    show addF (updM (.int .i64) .bool F b true) r = _
    have hb : b ∉ ksF F := fun hx => (List.nodup_append.1 h).2.2 b hx b (by simp) rfl
    rw [updI_new (vt := .bool) hb, ih]
    · simp
    · unfold ksF at h ⊢
      rw [List.map_append, List.map_cons, List.map_nil, List.append_assoc]
      exact h
theorem initF_eq (fr ct : Int) : initF fr ct = (areaL fr ct ct.toNat).map fun b => (b, true) := by
  unfold initF
  rw [addF_new _ [] (by simpa [ksF] using areaL_nodup fr ct ct.toNat)]
  rfl
theorem ksF_map (bs : List Int) : ksF (bs.map fun b => (b, true)) = bs := by
  unfold ksF; rw [List.map_map]; exact List.map_id' bs
theorem inv_init {fr ct : Int} {bl : List ByT.den} (h0 : 0 ≤ fr) (h1 : 1 ≤ ct) (h2 : fr + ct ≤ bl.length) (h3 : bl.length ≤ 65536) : Inv fr ct bl [] (initF fr ct) := by
  refine ⟨h0, h1, h2, h3, fun e he => (by cases he), fun x hx => ?_, ?_⟩
  · rw [initF_eq] at hx
    obtain ⟨b, _, rfl⟩ := List.mem_map.1 hx
    rfl
  · rw [initF_eq, ksF_map]
    simp [bOf]

section inv
variable {fr ct : Int} {bl : List ByT.den} {L : List PE} {F : List (Int × Bool)}
theorem Inv.nodup (h : Inv fr ct bl L F) : (ksF F ++ bOf L).Nodup := (h.perm.nodup_iff).2 (areaL_nodup _ _ _)
theorem Inv.mem (h : Inv fr ct bl L F) {x : Int} (hx : x ∈ ksF F ∨ x ∈ bOf L) : fr ≤ x ∧ x < fr + ct := by
  have := areaL_mem.1 (h.perm.mem_iff.1 (List.mem_append.2 hx))
  have := h.c1
  omega
theorem Inv.name (h : Inv fr ct bl L F) {e : PE} (he : e ∈ L) : e.n ∈ e.bs := by
  obtain ⟨h1, h2⟩ := h.ent e he
  rw [← h2]
  exact List.mem_of_getElem? (elt_get (t := .int .i64) (by have := (needN_bound e.c.length).2.2; have := h1.len; omega))
theorem bOf_mem {e : PE} (he : e ∈ L) {b : Int} (hb : b ∈ e.bs) : b ∈ bOf L := List.mem_flatMap.2 ⟨e, he, hb⟩
theorem Inv.names (h : Inv fr ct bl L F) : ∀ x ∈ nOf L, x ∈ bOf L := by
  intro x hx
  obtain ⟨e, he, rfl⟩ := List.mem_map.1 hx
  exact bOf_mem he (h.name he)
theorem names_nodup : ∀ {L : List PE}, (∀ e ∈ L, e.n ∈ e.bs) → (bOf L).Nodup → (nOf L).Nodup
  | [], _, _ => List.nodup_nil
  | e :: r, hn, hb => by
    have hb' : (e.bs ++ bOf r).Nodup := hb
    obtain ⟨h1, h2, h3⟩ := List.nodup_append.1 hb'
    refine List.nodup_cons.2 ⟨fun hx => ?_, names_nodup (fun x hx => hn x (List.mem_cons_of_mem _ hx)) h2⟩
    obtain ⟨y, hy, e'⟩ := List.mem_map.1 hx
    exact h3 e.n (hn e (by simp)) y.n (bOf_mem hy (hn y (List.mem_cons_of_mem _ hy))) e'.symm
theorem Inv.nnodup (h : Inv fr ct bl L F) : (nOf L).Nodup := names_nodup (fun e he => h.name he) (List.nodup_append.1 h.nodup).2.1
theorem tOf_keys (L : List PE) : (tOf L).map Prod.fst = nOf L := by unfold tOf nOf; rw [List.map_map]; rfl
theorem Inv.lk (h : Inv fr ct bl L F) {e : PE} (he : e ∈ L) : lkT' (tOf L) e.n = some e.bs := by
  unfold lkT'
  exact lookI_some (vt := .sl 8 (.int .i64)) (by rw [tOf_keys]; exact h.nnodup) (List.mem_map_of_mem (f := fun e : PE => (e.n, e.bs)) he)
theorem lk_none {n : Int} (hn : n ∉ nOf L) : lkT' (tOf L) n = none := by
  unfold lkT'
  exact lookI_none (vt := .sl 8 (.int .i64)) (by rw [tOf_keys]; exact hn)
theorem updT_new {n : Int} {bs : List Int} (hn : n ∉ nOf L) : updT (tOf L) n bs = tOf L ++ [(n, bs)] := by
  unfold updT
  exact updI_new (vt := .sl 8 (.int .i64)) (by rw [tOf_keys]; exact hn)

/-- A further text out of the free blocks. -/
theorem Inv.add (h : Inv fr ct bl L F) {e : PE} (he : EOk bl e) (hs : ∀ b ∈ e.bs, b ∈ ksF F) : Inv fr ct bl (L ++ [e]) (delF F e.bs) := by
  refine ⟨h.f0, h.c1, h.hb, h.sz, fun x hx => ?_, delF_tru h.tru _, ?_⟩
  · rcases List.mem_append.1 hx with hx | hx
    · exact h.ent x hx
    · rw [List.mem_singleton] at hx; subst hx; exact he
  · have hF := (List.nodup_append.1 h.nodup).1
    have h1 := perm_split hF he.1.nd hs
    have h2 : bOf (L ++ [e]) = bOf L ++ e.bs := by simp [bOf, List.flatMap_append]
    rw [ksF_delF, h2]
    refine List.Perm.trans ?_ h.perm
    refine List.Perm.trans ?_ (h1.append_right (bOf L))
    rw [List.append_assoc]
    exact List.Perm.append_left _ List.perm_append_comm
theorem Inv.fresh (h : Inv fr ct bl L F) {e : PE} (he : EOk bl e) (hs : ∀ b ∈ e.bs, b ∈ ksF F) : e.n ∉ nOf L := by
  intro hx
  have h1 : e.n ∈ e.bs := by
    rw [← he.2]
    exact List.mem_of_getElem? (elt_get (t := .int .i64) (by have := (needN_bound e.c.length).2.2; have := he.1.len; omega))
  exact (List.nodup_append.1 h.nodup).2.2 e.n (hs _ h1) e.n (h.names _ hx) rfl
end inv
end Go.V
namespace Go.V
set_option maxRecDepth 100000
set_option linter.unusedSimpArgs false
set_option linter.unnecessarySimpa false
set_option linter.unusedVariables false
section inv
variable {fr ct : Int} {bl : List ByT.den} {L : List PE} {F : List (Int × Bool)}
theorem Inv.total (h : Inv fr ct bl L F) : F.length + (bOf L).length = ct.toNat ∧ ct ≤ 65536 := by
  have h1 := h.perm.length_eq
  rw [List.length_append, areaL_length] at h1
  have h2 : (ksF F).length = F.length := List.length_map ..
  have := h.f0
  have := h.hb
  have := h.sz
  exact ⟨by omega, by omega⟩
theorem bOf_length : ∀ {L : List PE}, (∀ e ∈ L, 1 ≤ e.bs.length) → L.length ≤ (bOf L).length
  | [], _ => Nat.zero_le _
  | e :: r, h => by
    have := bOf_length (L := r) (fun x hx => h x (List.mem_cons_of_mem _ hx))
    have h1 := h e (by simp)
    show _ ≤ (e.bs ++ bOf r).length
    rw [List.length_append, List.length_cons]
    omega
theorem EOk.pos {e : PE} (h : EOk bl e) : 1 ≤ e.bs.length ∧ e.bs.length ≤ 85 := by
  have := needN_bound e.c.length
  have h2 := h.1.len
  have h3 := h.1.sz
  omega
theorem srt_perm (F : List (Int × Bool)) : (srtI (vt := .bool) F).Perm (ksF F) := List.mergeSort_perm _ _
theorem Inv.keep (h : Inv fr ct bl L F) {ws : List LgT.den} (hw : ∀ w ∈ ws, w.1 ∈ ksF F) : Inv fr ct (wrL bl ws) L F := by
  refine ⟨h.f0, h.c1, by rw [wrL_length]; exact h.hb, by rw [wrL_length]; exact h.sz, fun e he => ⟨(h.ent e he).1.keep (fun w hw' => ⟨?_, fun hx => ?_⟩), (h.ent e he).2⟩, h.tru, h.perm⟩
  · have h1 := h.mem (.inl (hw w hw'))
    exact Int.le_trans h.f0 h1.1
  · exact (List.nodup_append.1 h.nodup).2.2 w.1 (hw w hw') w.1 (bOf_mem he hx) rfl
theorem takeF_mem {n : Nat} {b : Int} (h : b ∈ takeF F n) : b ∈ ksF F := (srt_perm F).mem_iff.1 (List.mem_of_mem_take h)
theorem takeF_nodup (h : Inv fr ct bl L F) (n : Nat) : (takeF F n).Nodup := List.Pairwise.sublist (List.take_sublist _ _) ((srt_perm F).nodup_iff.2 (List.nodup_append.1 h.nodup).1)
theorem takeF_length {n : Nat} (h : needN n ≤ F.length) : (takeF F n).length = needN n := by
  unfold takeF; rw [List.length_take, srtI_length]; omega
theorem Inv.lost (h : Inv fr ct bl L F) (c : List UInt8) (k : Nat) : Inv fr ct (wrL bl ((wsF (takeF F c.length) c).take k)) L F :=
  h.keep (fun w hw => takeF_mem (wsF_take_mem hw))
def putE (F : List (Int × Bool)) (c : List UInt8) : PE := ⟨elt (.int .i64) (takeF F c.length) 0, takeF F c.length, c⟩
theorem Inv.put (h : Inv fr ct bl L F) {c : List UInt8} (hc : c.length ≤ 20000) (hn : needN c.length ≤ F.length) :
    Inv fr ct (wrL bl (wsF (takeF F c.length) c)) (L ++ [putE F c]) (delF F (takeF F c.length)) ∧ updT (tOf L) (elt (.int .i64) (takeF F c.length) 0) (takeF F c.length) = tOf (L ++ [putE F c]) ∧
    elt (.int .i64) (takeF F c.length) 0 ∉ nOf L := by
  have hm : ∀ b ∈ takeF F c.length, 0 ≤ b ∧ b < bl.length := fun b hb => by
    have := h.mem (.inl (takeF_mem hb))
    have := h.f0
    have := h.hb
    omega
  have hk := h.lost c (wsF (takeF F c.length) c).length
  rw [List.take_length] at hk
  have he : EOk (wrL bl (wsF (takeF F c.length) c)) (putE F c) := ⟨Chain.put (takeF_length hn) hc (takeF_nodup h _) hm, rfl⟩
  have hf := hk.fresh he (fun b hb => takeF_mem hb)
  refine ⟨hk.add he (fun b hb => takeF_mem hb), ?_, hf⟩
  rw [updT_new (show elt (.int .i64) (takeF F c.length) 0 ∉ nOf L from hf)]
  simp [tOf, putE]
theorem Inv.drop {A B : List PE} {e : PE} (h : Inv fr ct bl (A ++ e :: B) F) : Inv fr ct bl (A ++ B) (addF F e.bs) ∧ delM (.int .i64) (.sl 8 (.int .i64)) (tOf (A ++ e :: B)) e.n = tOf (A ++ B) ∧ lkT' (tOf (A ++ e :: B)) e.n = some e.bs ∧
    lkT' (tOf (A ++ B)) e.n = none ∧ F.length + e.bs.length ≤ 1000000 := by
  have hb1 : bOf (A ++ e :: B) = bOf A ++ (e.bs ++ bOf B) := by simp [bOf, List.flatMap_append]
  have hb2 : bOf (A ++ B) = bOf A ++ bOf B := by simp [bOf, List.flatMap_append]
  have hnd := h.nodup
  rw [hb1] at hnd
  have hF : (ksF F ++ e.bs).Nodup := by
    obtain ⟨n1, n2, n3⟩ := List.nodup_append.1 hnd
    obtain ⟨m1, m2, m3⟩ := List.nodup_append.1 n2
    obtain ⟨k1, k2, k3⟩ := List.nodup_append.1 m2
    exact List.nodup_append.2 ⟨n1, k1, fun a ha b hb => n3 a ha b (by simp [hb])⟩
  have hn := h.nnodup
  have hnn : e.n ∉ nOf A ∧ e.n ∉ nOf B := by
    have : nOf (A ++ e :: B) = nOf A ++ e.n :: nOf B := by simp [nOf]
    rw [this] at hn
    obtain ⟨n1, n2, n3⟩ := List.nodup_append.1 hn
    exact ⟨fun hx => n3 e.n hx e.n (by simp) rfl, (List.nodup_cons.1 n2).1⟩
  refine ⟨⟨h.f0, h.c1, h.hb, h.sz, fun x hx => h.ent x (by simp at hx ⊢; rcases hx with hx | hx <;> simp [hx]), fun x hx => ?_, ?_⟩, ?_, h.lk (by simp), ?_, ?_⟩
  · rw [addF_new _ _ hF] at hx
    rcases List.mem_append.1 hx with hx | hx
    · exact h.tru x hx
    · obtain ⟨b, _, rfl⟩ := List.mem_map.1 hx
      rfl
  · rw [addF_new _ _ hF]
    have : ksF (F ++ e.bs.map fun b => (b, true)) = ksF F ++ e.bs := by
      unfold ksF at *
      rw [List.map_append, List.map_map]
      congr 1
      exact List.map_id' _
    rw [this, hb2]
    refine List.Perm.trans ?_ h.perm
    rw [hb1, List.append_assoc]
    refine List.Perm.append_left _ ?_
    rw [← List.append_assoc, ← List.append_assoc]
    exact List.Perm.append_right _ List.perm_append_comm
  · rw [delI_eq]
    have hA : ∀ X : List PE, e.n ∉ nOf X → (tOf X).filter (fun x => decide (x.1 ≠ e.n)) = tOf X := by
      intro X hX
      refine List.filter_eq_self.2 fun x hx => decide_eq_true fun hne => hX ?_
      rw [← tOf_keys]
      exact hne ▸ List.mem_map_of_mem hx
    have h1 : tOf (A ++ e :: B) = tOf A ++ (e.n, e.bs) :: tOf B := by simp [tOf]
    rw [h1, List.filter_append, List.filter_cons, hA A hnn.1, hA B hnn.2]
    simp [tOf]
  · exact lk_none (by
      have : nOf (A ++ B) = nOf A ++ nOf B := by simp [nOf]
      rw [this, List.mem_append]
      rintro (q | q)
      · exact hnn.1 q
      · exact hnn.2 q)
  · have h1 := h.total
    have h2 : e.bs.length ≤ (bOf (A ++ e :: B)).length := by rw [hb1]; simp; omega
    omega
end inv
end Go.V
namespace Go.V
open Go.Proofs
set_option maxRecDepth 100000
set_option linter.unusedSimpArgs false
set_option linter.unnecessarySimpa false
set_option linter.unusedVariables false
/-- awake -/
def C9 : Contract := fun args hp K => match args, hp with
  | [], [] => K (.bool true) []
  | _, _ => False
theorem s9 : Sound Try.prog 9 C9 := by
  refine sound_of_okF ok9 (Γ := [(10, C10), (11, C11), (12, C12), (14, C14), (15, C15)]) (.cons s10 (callable_of_okF ok10) (.cons s11 (callable_of_okF ok11) (.cons s12 (callable_of_okF ok12) (.cons s14 (callable_of_okF ok14) (.cons s15 (callable_of_okF ok15) .nil))))) ?_
  intro args hp K h
  unfold C9 at h
  split at h
  · refine ⟨by simp, [], ?_⟩
    have i0 := inv_init (fr := 1) (ct := 3) (bl := List.replicate 4 []) (by omega) (by omega) (by simp) (by simp)
    have hF : (initF 1 3).length = 3 := rfl
    have hFm : ∀ e ∈ initF 1 3, 0 ≤ e.1 ∧ e.1 < ((List.replicate 4 ([] : List UInt8)).length : Int) := by decide
    simp (maxSteps := 2000000) only [a9, r9, C10, C11, C12, C14, C15, dkH, pgH, pgN, go_sem, eq_self, and_self, Int.natCast_pos, Int.le_refl, Nat.le_refl, Int.natCast_nonneg, Int.ofNat_lt, Int.ofNat_le, Int.reduceLT, Int.reduceLE, Int.reduceEq, Int.reduceNe, Int.reduceAdd, Int.reduceSub, Int.reduceMul, Int.reduceToNat, Int.reduceNeg, Nat.reduceEqDiff, Nat.reduceLeDiff, Nat.reduceSub, Nat.reduceMul, Nat.reduceLT, Nat.reduceBEq, Nat.reduceAdd]
    have hn1 : needN 2 = 1 := rfl
    refine ⟨by simp, fun e => absurd ⟨by simp, by simp⟩ e, fun _ => ⟨fun T F hTF => ?_, fun e => by cases e⟩⟩
    have hTF' : T = [] ∧ F = initF 1 3 := by cases hTF; exact ⟨rfl, rfl⟩
    clear hTF
    obtain ⟨rfl, rfl⟩ := hTF'
    have ip := i0.put (c := [UInt8.ofNat 97, UInt8.ofNat 98]) (by simp) (by rw [hF]; decide)
    obtain ⟨i1, hu, _⟩ := ip
    have hlk := i1.lk (e := putE (initF 1 3) [UInt8.ofNat 97, UInt8.ofNat 98]) (by simp)
    have hen := (i1.ent (putE (initF 1 3) [UInt8.ofNat 97, UInt8.ofNat 98]) (by simp)).1
    have hget := hen.get
    have hrd := hen.rd i1.sz
    have htot := i1.total
    have hbl := hen.len
    rw [← hu] at hlk
    generalize hbs : takeF (initF 1 3) 2 = bs at *
    refine And.intro rfl (And.intro ⟨by rw [hF]; omega, by simp, hFm, by simp⟩ (And.intro (fun e => e.elim) (And.intro (fun e => by rw [hF] at e; omega) (fun _ => And.intro (fun _ => ?_) (fun e => e.elim)))))
    have hlk2 : lkT' (updT [] (elt (.int .i64) bs 0) bs) (elt (.int .i64) bs 0) = some bs := by
      subst hbs; exact hlk
    refine And.intro (fun e => by rw [hlk2] at e; cases e) (fun bs2 e => ?_)
    have e2 : bs2 = bs := by rw [hlk2] at e; exact (Option.some.inj e).symm
    subst e2
    have hl1 : bs2.length = 1 := by subst hbs; exact hbl
    refine And.intro ⟨by omega, by subst hbs; exact hrd⟩ ?_
    rintro u rfl
    have hg2 : bs2.flatMap (pl4 (wrL (List.replicate 4 []) (wsF bs2 [UInt8.ofNat 97, UInt8.ofNat 98]))) = [UInt8.ofNat 97, UInt8.ofNat 98] := by subst hbs; exact hget
    rw [hg2]
    have hd2 : (delF (initF 1 3) bs2).length = 2 := by
      have h1 : (delF (initF 1 3) bs2).length + bs2.length = 3 := by
        subst hbs
        have := htot.1
        simp [bOf, putE] at this
        exact this
      omega
    refine swd (fun _ => ?_) (fun e => absurd rfl e)
    rw [srtI_length, hd2]
    refine ⟨by omega, ?_⟩
    rintro _ _ m rfl c hc
    have : c = true := by rw [hc]; decide
    subst this
    exact h
  · exact h.elim
end Go.V
namespace Go.V
open Go.Proofs
set_option maxRecDepth 100000
set_option linter.unusedSimpArgs false
set_option linter.unnecessarySimpa false
set_option linter.unusedVariables false
/-! ### the contracts, as they are used -/
section use
variable {K : SV → List SB → Prop} {fr ct : Int} {bl : List ByT.den} {lg : List LgT.den} {L : List PE} {F : List (Int × Bool)} {p : Bool} {c : List UInt8}
theorem use9 (k : K (.bool true) []) : C9 [] [] K := k
theorem use11 {n : Int} (h : 0 ≤ n ∧ n ≤ 65536) (k : K (.ptr 0 0) (dkH true (List.replicate n.toNat []) [] (-1) false)) : C11 [.int .i64 n] [] K := ⟨h, k⟩
theorem use13 {n : Int} (h : 0 ≤ n ∧ n ≤ 1000000) (k : K (.int .i64 (needN n.toNat)) []) : C13 [.int .i64 n] [] K := ⟨h, k⟩
theorem use10 {f : Int} (h0 : 0 ≤ fr) (h1 : 1 ≤ ct) (h2 : fr + ct ≤ bl.length) (h3 : bl.length ≤ 65536)
    (k : Inv fr ct bl [] (initF fr ct) → K (.tup [.ptr 3 0, .int .i64 0]) (dkH false bl lg f false ++ pgN fr (tOf []) (initF fr ct))) : C10 [.ptr 0 0, .int .i64 fr, .int .i64 ct, .sl p 8 (.int .i64) []] (dkH false bl lg f false) K := by
  refine ⟨bl, lg, f, false, rfl, p, [], rfl, ⟨rfl, h3, Nat.zero_le _⟩, fun e => absurd ⟨h1, h0, by omega, by omega⟩ e, fun _ => ⟨fun T F e => ?_, fun e => by cases e⟩⟩
  cases e
  exact k (inv_init h0 h1 h2 h3)
theorem Inv.fb (h : Inv fr ct bl L F) : ∀ e ∈ F, 0 ≤ e.1 ∧ e.1 < bl.length := fun e he => by
  have := h.mem (.inl (List.mem_map_of_mem he))
  have := h.f0
  have := h.hb
  omega
theorem Inv.small (h : Inv fr ct bl L F) : F.length ≤ 65536 ∧ (tOf L).length ≤ 65536 ∧ L.length ≤ 65536 := by
  have ht := h.total
  have hbl := bOf_length (fun e he => (h.ent e he).pos.1)
  have hl : (tOf L).length = L.length := List.length_map ..
  omega
/-- Put, as pages that are kept take it. -/
theorem use12 (h : Inv fr ct bl L F) {f : Int} (hlg : lg.length ≤ 900000)
    (kl : 20000 < c.length → K (.tup [.int .i64 0, .int .i64 4]) (pgH true fr (tOf L) F bl lg f false))
    (kf : c.length ≤ 20000 → F.length < needN c.length → K (.tup [.int .i64 0, .int .i64 6]) (pgH true fr (tOf L) F bl lg f false))
    (kp : c.length ≤ 20000 → needN c.length ≤ F.length → (f < 0 ∨ (needN c.length : Int) ≤ f) → ∀ F' bl', Inv fr ct bl' (L ++ [putE F c]) F' → bl' = wrL bl (wsF (takeF F c.length) c) → (putE F c).n ∉ nOf L →
      K (.tup [.int .i64 (putE F c).n, .int .i64 0]) (pgH true fr (tOf (L ++ [putE F c])) F' bl' (lg ++ wsF (takeF F c.length) c) (fuA f (needN c.length)) false))
    (kx : c.length ≤ 20000 → needN c.length ≤ F.length → 0 ≤ f → f < (needN c.length : Int) → ∀ bl', Inv fr ct bl' L F →
      K (.tup [.int .i64 0, .int .i64 9]) (pgH true fr (tOf L) F bl' (lg ++ (wsF (takeF F c.length) c).take f.toNat) 0 true)) :
    C12 [.ptr 0 0, .sl p 1 .byte c] (pgH false fr (tOf L) F bl lg f false) K := by
  have hs := h.small
  refine ⟨fr, tOf L, F, bl, lg, f, false, rfl, p, c, rfl, ⟨rfl, by omega, by omega, h.fb, h.sz, hlg⟩, kl, kf, fun h1 h2 => ⟨fun h3 => ?_, fun h3 h4 => kx h1 h2 h3 h4 _ (h.lost c _)⟩⟩
  obtain ⟨i1, i2, i3⟩ := h.put h1 h2
  have := kp h1 h2 h3 _ _ i1 rfl i3
  rw [← i2] at this
  exact this
theorem use14 (h : Inv fr ct bl L F) {f : Int} {e : PE} (he : e ∈ L) {n : Int} (hn : n = e.n) (k : K (.tup [.own 6, .int .i64 0]) (pgH false fr (tOf L) F bl lg f false ++ [.row true 1 .byte e.c])) :
    C14 [.ptr 0 0, .int .i64 n] (pgH false fr (tOf L) F bl lg f false) K := by
  subst hn
  have h1 := h.ent e he
  have h2 := h1.pos
  refine ⟨fr, tOf L, F, bl, lg, f, false, rfl, And.intro (fun e' => by rw [h.lk he] at e'; cases e') (fun bs e' => ?_)⟩
  rw [h.lk he] at e'
  cases e'
  refine ⟨⟨rfl, by omega, h1.1.rd h.sz⟩, ?_⟩
  rw [h1.1.get]
  exact k
theorem use14n {f : Int} {dn : Bool} {n : Int} (hn : n ∉ nOf L) (k : K (.tup [.own 6, .int .i64 5]) (pgH false fr (tOf L) F bl lg f dn ++ [.row true 1 .byte []])) :
    C14 [.ptr 0 0, .int .i64 n] (pgH false fr (tOf L) F bl lg f dn) K :=
  ⟨fr, tOf L, F, bl, lg, f, dn, rfl, And.intro (fun _ => k) (fun bs e => by rw [lk_none hn] at e; cases e)⟩
theorem use15 {T : List (Int × List Int)} {f : Int} {dn : Bool} (hF : F.length ≤ 65536) (k : K (.own 6) (pgH false fr T F bl lg f dn ++ [.row true 8 (.int .i64) (srtI (vt := .bool) F)])) :
    C15 [.ptr 0 0] (pgH false fr T F bl lg f dn) K := ⟨fr, T, F, bl, lg, f, dn, rfl, by omega, k⟩
theorem use19 {T : List (Int × List Int)} {f : Int} {dn : Bool} (hT : T.length ≤ 65536) (k : K (.own 6) (pgH false fr T F bl lg f dn ++ [.row true 8 (.int .i64) (srtI (vt := .sl 8 (.int .i64)) T)])) :
    C19 [.ptr 0 0] (pgH false fr T F bl lg f dn) K := ⟨fr, T, F, bl, lg, f, dn, rfl, by omega, k⟩
theorem use18 {A B : List PE} {e : PE} (h : Inv fr ct bl (A ++ e :: B) F) {f : Int} {dn : Bool} {n : Int} (hn : n = e.n) (k : ∀ F', Inv fr ct bl (A ++ B) F' → K (.int .i64 0) (pgH false fr (tOf (A ++ B)) F' bl lg f dn)) :
    C18 [.ptr 0 0, .int .i64 n] (pgH false fr (tOf (A ++ e :: B)) F bl lg f dn) K := by
  subst hn
  obtain ⟨h1, h2, h3, h4, h5⟩ := h.drop
  refine ⟨fr, _, F, bl, lg, f, dn, rfl, And.intro (fun e' => by rw [h3] at e'; cases e') (fun bs e' => ?_)⟩
  rw [h3] at e'
  cases e'
  refine ⟨h5, ?_⟩
  rw [h2]
  exact k _ h1
theorem use18n {f : Int} {dn : Bool} {n : Int} (hn : n ∉ nOf L) (k : K (.int .i64 5) (pgH false fr (tOf L) F bl lg f dn)) :
    C18 [.ptr 0 0, .int .i64 n] (pgH false fr (tOf L) F bl lg f dn) K :=
  ⟨fr, tOf L, F, bl, lg, f, dn, rfl, And.intro (fun _ => k) (fun bs e => by rw [lk_none hn] at e; cases e)⟩
theorem use16 {k' n : Int} (k : K (.own 0) [.row true 1 .byte (txF n c)]) : C16 [.agg [.int .i64 k', .int .i64 n, .sl p 1 .byte c]] [] K := ⟨p, c, rfl, k⟩
end use
end Go.V
namespace Go.V
open Go.Proofs
set_option maxRecDepth 100000
set_option linter.unusedSimpArgs false
set_option linter.unnecessarySimpa false
set_option linter.unusedVariables false
end Go.V
