/- A part of the proof layer, or functions of the given program in it: contracts and their proofs. -/
import Derived.Test.YthnnbgaphjinnaaMD4
namespace Go.V
open Go.Proofs
set_option maxRecDepth 100000
set_option linter.unusedSimpArgs false
set_option linter.unnecessarySimpa false
set_option linter.unusedVariables false
def nxF (bs : List Int) (i : Nat) : Nat := if i + 1 < bs.length then (elt (.int .i64) bs (i + 1) + 1).toNat else 0
def headF (bs : List Int) (i : Nat) : List UInt8 := [if i = 0 then 1 else 0, UInt8.ofNat (nxF bs i), UInt8.ofNat (nxF bs i / 256), UInt8.ofNat (nxF bs i / 65536)]
def partF (b : List UInt8) (i : Nat) : List UInt8 := (b.drop (238 * i)).take 238
def blkF (bs : List Int) (b : List UInt8) (i : Nat) : List UInt8 := sealF 80 (elt (.int .i64) bs i).toNat (headF bs i ++ partF b i)
def wsF (bs : List Int) (b : List UInt8) : List LgT.den := (List.range bs.length).map fun i => ((elt (.int .i64) bs i, blkF bs b i) : Int × List UInt8)
def delF (F : List (Int × Bool)) (bs : List Int) : List (Int × Bool) := bs.foldl (fun F b => delM (.int .i64) .bool F b) F
theorem delF_snoc (F : List (Int × Bool)) (bs : List Int) (b : Int) : delF F (bs ++ [b]) = delM (.int .i64) .bool (delF F bs) b := by
  unfold delF; rw [List.foldl_append]; rfl
theorem wsF_length (bs : List Int) (b : List UInt8) : (wsF bs b).length = bs.length := by simp [wsF]
theorem wsF_get {bs : List Int} {b : List UInt8} {i : Nat} (h : i < bs.length) : (wsF bs b)[i]? = some (elt (.int .i64) bs i, blkF bs b i) := by simp [wsF, h]
def takeF (F : List (Int × Bool)) (n : Nat) : List Int := (srtI (vt := .bool) F).take (needN n)
def fuA (f : Int) (i : Nat) : Int := if f < 0 then f else f - i
theorem byte0 {x : Int} (hx : 0 ≤ x) : UInt8.ofNat (IntKind.u8.wrap x).toNat = UInt8.ofNat x.toNat := by
  have h := byte_of (sh := 0) hx
  rw [show (2 : Int) ^ 0 = 1 from rfl, Int.fdiv_eq_ediv_of_nonneg _ (by decide), Int.ediv_one, show (2 : Nat) ^ 0 = 1 from rfl, Nat.div_one] at h
  exact h
theorem sealF_length {kd : UInt8} {pl : Nat} {p : List UInt8} (h : p.length ≤ 242) : (sealF kd pl p).length = 256 := by
  unfold sealF; rw [List.length_append, bytesB_length, sBody_length h]
theorem partF_length (b : List UInt8) (i : Nat) : (partF b i).length ≤ 238 := by unfold partF; rw [List.length_take]; omega
theorem part_eq {b : List UInt8} {i : Nat} : (b.drop (238 * i)).take (min (238 * (i + 1)) b.length - 238 * i) = partF b i := by
  unfold partF
  rcases Nat.le_total (238 * (i + 1)) b.length with h | h
  · rw [Nat.min_eq_left h, show 238 * (i + 1) - 238 * i = 238 by omega]
  · rw [Nat.min_eq_right h, List.take_of_length_le (by rw [List.length_drop]; exact Nat.le_refl _), List.take_of_length_le (by rw [List.length_drop]; omega)]
theorem headF_length (bs : List Int) (i : Nat) : (headF bs i).length = 4 := rfl
def A12 (fr : Int) (T : List (Int × List Int)) (F : List (Int × Bool)) (bl : List ByT.den) (lg : List LgT.den) (f : Int) (p : Bool) (b : List UInt8) (bs : List Int) : LoopAnn := {
  G := Nat
  I := fun i => ⟨[(0, .ptr 0 0), (1, .sl p 1 .byte b), (6, .int .i64 bs.length), (7, .sl true 8 (.int .i64) bs), (42, .sl true 8 (.int .i64) bs), (43, .int .i64 bs.length), (44, .int .i64 i)],
    pgH true fr T F (wrL bl ((wsF bs b).take i)) (lg ++ (wsF bs b).take i) (fuA f i) false⟩
  R := fun _ i => i ≤ bs.length ∧ (0 ≤ f → (i : Int) ≤ f)
  μ := fun i => bs.length - i }
theorem I12 (fr T F bl lg f p b bs) (i : Nat) : (A12 fr T F bl lg f p b bs).I i = ⟨[(0, .ptr 0 0), (1, .sl p 1 .byte b), (6, .int .i64 bs.length), (7, .sl true 8 (.int .i64) bs), (42, .sl true 8 (.int .i64) bs), (43, .int .i64 bs.length), (44, .int .i64 i)],
    pgH true fr T F (wrL bl ((wsF bs b).take i)) (lg ++ (wsF bs b).take i) (fuA f i) false⟩ := rfl
def B12 (fr : Int) (T : List (Int × List Int)) (F : List (Int × Bool)) (bl : List ByT.den) (lg : List LgT.den) (f : Int) (bs : List Int) : LoopAnn :=
  cntA (fun i => ⟨[(0, .ptr 0 0), (7, .sl true 8 (.int .i64) bs), (106, .sl true 8 (.int .i64) bs), (107, .int .i64 bs.length), (108, .int .i64 i)],
    pgH true fr T (delF F (bs.take i)) bl lg f false⟩) bs.length
/-- Put -/
def C12 : Contract := fun args hp K => match args with
  | [.nilp, x] => hp = [] ∧ onB x fun b => K (.tup [.int .i64 0, .int .i64 1]) []
  | [.ptr 0 0, x] => onPg hp fun fr T F bl lg f dn => onB x fun b => (dn = false ∧ F.length ≤ 1000000 ∧ T.length ≤ 1000000 ∧ (∀ e ∈ F, 0 ≤ e.1 ∧ e.1 < bl.length) ∧ bl.length ≤ 65536 ∧ lg.length ≤ 900000) ∧
      (20000 < b.length → K (.tup [.int .i64 0, .int .i64 4]) (pgH true fr T F bl lg f dn)) ∧
      (b.length ≤ 20000 → F.length < needN b.length → K (.tup [.int .i64 0, .int .i64 6]) (pgH true fr T F bl lg f dn)) ∧
      (b.length ≤ 20000 → needN b.length ≤ F.length →
        (f < 0 ∨ (needN b.length : Int) ≤ f → K (.tup [.int .i64 (elt (.int .i64) (takeF F b.length) 0), .int .i64 0])
          (pgH true fr (updT T (elt (.int .i64) (takeF F b.length) 0) (takeF F b.length)) (delF F (takeF F b.length)) (wrL bl (wsF (takeF F b.length) b)) (lg ++ wsF (takeF F b.length) b) (fuA f (needN b.length)) false)) ∧
        (0 ≤ f → f < (needN b.length : Int) → K (.tup [.int .i64 0, .int .i64 9]) (pgH true fr T F (wrL bl ((wsF (takeF F b.length) b).take f.toNat)) (lg ++ (wsF (takeF F b.length) b).take f.toNat) 0 true)))
  | _ => False
theorem s12 : Sound Try.prog 12 C12 := by
  refine sound_of_okF ok12 (Γ := [(15, C15), (29, C29), (30, C30)]) (.cons s15 (callable_of_okF ok15) (.cons s29 (callable_of_okF ok29) (.cons s30 (callable_of_okF ok30) .nil))) ?_
  intro args hp K h
  unfold C12 at h
  split at h
  · rename_i x
    obtain ⟨rfl, p, b, rfl, h⟩ := h
    refine ⟨by simp, [], ?_⟩
    simp (maxSteps := 2000000) only [a12, r12, go_sem, eq_self, and_self, Int.natCast_pos, Int.le_refl, Nat.le_refl, Int.natCast_nonneg, Int.ofNat_lt, Int.ofNat_le, Int.reduceLT, Int.reduceLE, Int.reduceEq, Int.reduceNe, Int.reduceAdd, Int.reduceSub, Int.reduceMul, Int.reduceToNat, Int.reduceNeg, Nat.reduceEqDiff, Nat.reduceLeDiff, Nat.reduceSub, Nat.reduceMul, Nat.reduceLT, Nat.reduceBEq, Nat.reduceAdd]
    rintro _ _ m rfl _ _ m1 hm1 _ _ m2 hm2 _ _ m3 hm3 m4 hm4
    exact h
  · rename_i x
    obtain ⟨fr, T, F, bl, lg, f, dn, rfl, p, b, rfl, ⟨hd, hF, hT, hFb, hbl, hlg⟩, h1, h2, h3⟩ := h
    subst hd
    refine ⟨by simp, [(1, A12 fr T F bl lg f p b (takeF F b.length)), (2, B12 fr T F (wrL bl (wsF (takeF F b.length) b)) (lg ++ wsF (takeF F b.length) b) (fuA f (needN b.length)) (takeF F b.length))], ?_⟩
    unfold pgH at h1 h2 h3 ⊢
    simp (maxSteps := 2000000) only [a12, r12, C15, pgH, go_sem, eq_self, and_self, Int.natCast_pos, Int.le_refl, Nat.le_refl, Int.natCast_nonneg, Int.ofNat_lt, Int.ofNat_le, Int.reduceLT, Int.reduceLE, Int.reduceEq, Int.reduceNe, Int.reduceAdd, Int.reduceSub, Int.reduceMul, Int.reduceToNat, Int.reduceNeg, Nat.reduceEqDiff, Nat.reduceLeDiff, Nat.reduceSub, Nat.reduceMul, Nat.reduceLT, Nat.reduceBEq, Nat.reduceAdd]
    have hmx := maxLen_val
    rintro _ hb8 m rfl _ _ m1 hm1 _ _ m2 hm2 _ _ m3 hm3 m4 hm4
    rw [w64 (by omega)] at hm1
    rw [w64 (by omega), hm1] at hm2
    have hq : m2.tdiv 238 = ((b.length + 237) / 238 : Nat) := by rw [Int.tdiv_eq_ediv_of_nonneg (by omega), hm2]; omega
    rw [hq, w64 (by omega)] at hm3
    have e4 : m4 = (needN b.length : Int) := by
      rw [hm4, hm3]; unfold needN; split <;> omega
    clear hm1 hm2 hm3 hm4 hq
    subst e4
    rintro _ _ m rfl
    refine swd (fun e => h1 (by omega)) (fun e1 => ?_)
    rintro _ m rfl
    refine swd (fun e => h2 (by omega) (by omega)) (fun e2 => ?_)
    obtain ⟨h4, h5⟩ := h3 (by omega) (by omega)
    clear h1 h2 h3
    have hbs : List.take ((needN b.length : Int).toNat - 0) (srtI (vt := .bool) F) = takeF F b.length := by rw [Int.toNat_natCast, Nat.sub_zero]; rfl
    have hbl2 : (takeF F b.length).length = needN b.length := by unfold takeF; rw [List.length_take, srtI_length]; omega
    have hbm : ∀ x ∈ takeF F b.length, 0 ≤ x ∧ x < bl.length := fun x hx => by
      obtain ⟨y, hy, rfl⟩ := srtI_mem (vt := .bool) (List.mem_of_mem_take hx)
      exact hFb y hy
    rw [hbs, ← hbl2]
    rw [← hbl2] at h4 h5
    have hn1 : 1 ≤ (takeF F b.length).length := by rw [hbl2]; unfold needN; omega
    have hn2 : b.length ≤ 238 * (takeF F b.length).length := by rw [hbl2]; unfold needN; omega
    have hn3 : 238 * ((takeF F b.length).length - 1) ≤ b.length := by rw [hbl2]; unfold needN; omega
    have hnF : (takeF F b.length).length ≤ F.length := by omega
    generalize takeF F b.length = bs at *
    refine And.intro hF (nd_intro ⟨by omega, by rw [srtI_length]; omega⟩ ?_)
    rintro _ _ m rfl
    refine loop_intro (A := A12 fr T F bl lg f p b bs) (0 : Nat) ?_ ⟨Nat.zero_le _, fun h => h⟩ ?_
    · simp (maxSteps := 2000000) only [I12, pgH, go_sem, eq_self, and_self, Int.natCast_pos, Int.le_refl, Nat.le_refl, Int.natCast_nonneg, Int.ofNat_lt, Int.ofNat_le, Int.reduceLT, Int.reduceLE, Int.reduceEq, Int.reduceNe, Int.reduceAdd, Int.reduceSub, Int.reduceMul, Int.reduceToNat, Int.reduceNeg, Nat.reduceEqDiff, Nat.reduceLeDiff, Nat.reduceSub, Nat.reduceMul, Nat.reduceLT, Nat.reduceBEq, Nat.reduceAdd]
      simp only [List.take_zero, List.append_nil, fuA]
      rw [show (if f < 0 then f else f - ((0 : Nat) : Int)) = f by split <;> omega]
      rfl
    · rintro (i : Nat) ⟨hi, hif⟩
      simp (maxSteps := 2000000) only [I12, pgH, C29, C30, dkH, go_sem, eq_self, and_self, Int.natCast_pos, Int.le_refl, Nat.le_refl, Int.natCast_nonneg, Int.ofNat_lt, Int.ofNat_le, Int.reduceLT, Int.reduceLE, Int.reduceEq, Int.reduceNe, Int.reduceAdd, Int.reduceSub, Int.reduceMul, Int.reduceToNat, Int.reduceNeg, Nat.reduceEqDiff, Nat.reduceLeDiff, Nat.reduceSub, Nat.reduceMul, Nat.reduceLT, Nat.reduceBEq, Nat.reduceAdd]
      refine swd (fun hlt => ?_) (fun hge => ?_)
      · have hw8 : ∀ x ∈ bs, 0 ≤ x ∧ x < bl.length := hbm
        refine nd_intro hlt (And.intro (by omega) ?_)
        refine swd (fun ei => ?_) (fun ei => ?_)
        focus
          refine nd_intro (by simp) ?_
          rintro _ _ m hm
          rw [w64 (by omega)] at hm
          subst hm
          refine swd (fun e3 => ?_) (fun e3 => ?_)
        rotate_left 2
        focus
          rintro _ _ m hm
          rw [w64 (by omega)] at hm
          subst hm
          refine swd (fun e3 => ?_) (fun e3 => ?_)
        focus
          rintro _ _ m hm
          rw [w64 (by omega)] at hm
          subst hm
          have ei1 : ((i : Int) + 1).toNat = i + 1 := by omega
          refine nd_intro (by omega) (nd_intro (by omega) ?_)
          rw [ei1]
          have hx := hbm _ (List.mem_of_getElem? (elt_get (t := .int .i64) (xs := bs) (m := i + 1) (by omega)))
          rintro _ _ m1 hm1
          rw [w64 (by omega)] at hm1
          rintro _ m2 hm2 _ _ m3 hm3 _ m4 hm4 _ _ m5 hm5 _ m6 hm6
          have hX : ((((List.replicate 4 Ty.byte.dflt).set 1 (UInt8.ofNat m2.toNat)).set 2 (UInt8.ofNat m4.toNat)).set 3 (UInt8.ofNat m6.toNat)) = headF bs i := by
            have hnx : nxF bs i = m1.toNat := by unfold nxF; rw [if_pos (by omega), hm1]
            unfold headF
            rw [hnx, hm2, byte0 (by omega), hm4, hm3, byte_of (by omega), hm6, hm5, byte_of (by omega)]
            rw [if_neg (by omega)]
            rfl
          rw [hX]
          refine nd_intro (by simp) (nd_intro (by simp) (nd_intro (by simp) (nd_intro (by simp) (nd_intro (by simp) (nd_intro (by simp) ?_)))))
          clear hX hm1 hm2 hm3 hm4 hm5 hm6 hx ei1
        rotate_left
        focus
          have hX : (List.replicate 4 Ty.byte.dflt) = headF bs i := by
            have hnx : nxF bs i = 0 := by unfold nxF; rw [if_neg (by omega)]
            unfold headF
            rw [hnx, if_neg (by omega)]
            rfl
          rw [hX]
          clear hX
        rotate_left
        focus
          rintro _ _ m hm
          rw [w64 (by omega)] at hm
          subst hm
          have ei1 : ((i : Int) + 1).toNat = i + 1 := by omega
          refine nd_intro (by omega) (nd_intro (by omega) ?_)
          rw [ei1]
          have hx := hbm _ (List.mem_of_getElem? (elt_get (t := .int .i64) (xs := bs) (m := i + 1) (by omega)))
          rintro _ _ m1 hm1
          rw [w64 (by omega)] at hm1
          rintro _ m2 hm2 _ _ m3 hm3 _ m4 hm4 _ _ m5 hm5 _ m6 hm6
          have hX : (((((List.replicate 4 Ty.byte.dflt).set 0 (UInt8.ofNat 1)).set 1 (UInt8.ofNat m2.toNat)).set 2 (UInt8.ofNat m4.toNat)).set 3 (UInt8.ofNat m6.toNat)) = headF bs i := by
            have hnx : nxF bs i = m1.toNat := by unfold nxF; rw [if_pos (by omega), hm1]
            unfold headF
            rw [hnx, hm2, byte0 (by omega), hm4, hm3, byte_of (by omega), hm6, hm5, byte_of (by omega)]
            rw [if_pos (by omega)]
            rfl
          rw [hX]
          refine nd_intro (by simp) (nd_intro (by simp) (nd_intro (by simp) (nd_intro (by simp) (nd_intro (by simp) (nd_intro (by simp) ?_)))))
          clear hX hm1 hm2 hm3 hm4 hm5 hm6 hx ei1
        rotate_left
        focus
          have hX : ((List.replicate 4 Ty.byte.dflt).set 0 (UInt8.ofNat 1)) = headF bs i := by
            have hnx : nxF bs i = 0 := by unfold nxF; rw [if_neg (by omega)]
            unfold headF
            rw [hnx, if_pos (by omega)]
            rfl
          rw [hX]
          clear hX
        rotate_left
        all_goals clear ei e3
        all_goals rintro _ _ m hm _ _ m1 hm1 _ _ m2 hm2 _ _ m3 rfl m4 hm4
        all_goals rw [w64 (by omega)] at hm hm1
        all_goals rw [w64 (by omega), hm1] at hm2
        all_goals have e4 : m4 = ((min (238 * (i + 1)) b.length : Nat) : Int) := by rw [hm4, hm2]; split <;> omega
        all_goals have em : m = ((238 * i : Nat) : Int) := by omega
        all_goals clear hm hm1 hm2 hm4
        all_goals subst e4 em
        all_goals have hi2 : 238 * i ≤ b.length := Nat.le_trans (Nat.mul_le_mul_left 238 (by omega)) hn3
        all_goals refine nd_intro (by omega) ?_
        all_goals intro ys hys
        all_goals rw [Int.toNat_natCast, Int.toNat_natCast, part_eq] at hys
        all_goals subst hys
        all_goals have hx0 := hbm _ (List.mem_of_getElem? (elt_get (t := .int .i64) (xs := bs) (m := i) hlt))
        all_goals have hpl := partF_length b i
        all_goals have hhl := headF_length bs i
        all_goals have hhp : (headF bs i ++ partF b i).length ≤ 242 := by rw [List.length_append]; omega
        all_goals rintro _ m5 hm5
        all_goals rw [wu32 (by omega)] at hm5
        all_goals subst hm5
        all_goals refine And.intro (fun _ _ => by omega) (fun _ => And.intro rfl (And.intro hhp (And.intro ⟨by omega, by omega⟩ (And.intro rfl (And.intro ⟨hx0.1, by rw [wrL_length]; exact hx0.2, sealF_length hhp, by rw [List.length_append, List.length_take, wsF_length]; omega⟩ (And.intro (fun e => by cases e) (And.intro (fun e0 => ?_) (fun e0 => ?_))))))))
        all_goals first
          | (have hfi : f = i := by unfold fuA at e0; split at e0 <;> omega
             have := h5 (by omega) (by omega)
             rw [hfi, Int.toNat_natCast] at this
             rw [e0]
             exact this)
          | (rintro _ _ m6 hm6
             rw [w64 (by omega)] at hm6
             subst hm6
             have e7 : (if 0 < fuA f i then fuA f i - 1 else fuA f i) = fuA f (i + 1) := by
               unfold fuA at e0 ⊢
               by_cases hf : f < 0
               · simp only [if_pos hf]; split <;> omega
               · simp only [if_neg hf] at e0 ⊢; have := hif (by omega); split <;> omega
             refine lpE_intro (A := A12 fr T F bl lg f p b bs) (i + 1 : Nat) ?_ ⟨hlt, ?_⟩ ?_
             · simp (maxSteps := 2000000) only [I12, pgH, go_sem, eq_self, and_self, Int.natCast_pos, Int.le_refl, Nat.le_refl, Int.natCast_nonneg, Int.ofNat_lt, Int.ofNat_le, Int.reduceLT, Int.reduceLE, Int.reduceEq, Int.reduceNe, Int.reduceAdd, Int.reduceSub, Int.reduceMul, Int.reduceToNat, Int.reduceNeg, Nat.reduceEqDiff, Nat.reduceLeDiff, Nat.reduceSub, Nat.reduceMul, Nat.reduceLT, Nat.reduceBEq, Nat.reduceAdd]
               rw [e7, ← take_snoc (wsF_get hlt), wrL_snoc, List.append_assoc]
               rfl
             · intro hf
               have := hif hf
               unfold fuA at e0
               rw [if_neg (by omega)] at e0
               omega
             · show bs.length - (i + 1) < bs.length - i
               omega)
      · have hi2 : i = bs.length := by omega
        subst hi2
        rw [List.take_of_length_le (by rw [wsF_length]; exact Nat.le_refl _)]
        have h6 := h4 (by by_cases hf : f < 0; exact .inl hf; exact .inr (hif (by omega)))
        rintro _ _ m rfl
        refine loop_intro (A := B12 fr T F (wrL bl (wsF bs b)) (lg ++ wsF bs b) (fuA f bs.length) bs) (0 : Nat) ?_ (Nat.zero_le _) ?_
        · simp (maxSteps := 2000000) only [B12, cntA_I, pgH, go_sem, eq_self, and_self, Int.natCast_pos, Int.le_refl, Nat.le_refl, Int.natCast_nonneg, Int.ofNat_lt, Int.ofNat_le, Int.reduceLT, Int.reduceLE, Int.reduceEq, Int.reduceNe, Int.reduceAdd, Int.reduceSub, Int.reduceMul, Int.reduceToNat, Int.reduceNeg, Nat.reduceEqDiff, Nat.reduceLeDiff, Nat.reduceSub, Nat.reduceMul, Nat.reduceLT, Nat.reduceBEq, Nat.reduceAdd]
          rfl
        · intro (k : Nat) (hk : k ≤ bs.length)
          simp (maxSteps := 2000000) only [B12, cntA_I, pgH, go_sem, eq_self, and_self, Int.natCast_pos, Int.le_refl, Nat.le_refl, Int.natCast_nonneg, Int.ofNat_lt, Int.ofNat_le, Int.reduceLT, Int.reduceLE, Int.reduceEq, Int.reduceNe, Int.reduceAdd, Int.reduceSub, Int.reduceMul, Int.reduceToNat, Int.reduceNeg, Nat.reduceEqDiff, Nat.reduceLeDiff, Nat.reduceSub, Nat.reduceMul, Nat.reduceLT, Nat.reduceBEq, Nat.reduceAdd]
          refine swd (fun hlt2 => ?_) (fun hge2 => ?_)
          · refine nd_intro hlt2 ?_
            rintro _ _ m hm
            rw [w64 (by omega)] at hm
            subst hm
            refine cntA_next hlt2 ?_
            simp (maxSteps := 2000000) only [go_sem, eq_self, and_self, Int.natCast_pos, Int.le_refl, Nat.le_refl, Int.natCast_nonneg, Int.ofNat_lt, Int.ofNat_le, Int.reduceLT, Int.reduceLE, Int.reduceEq, Int.reduceNe, Int.reduceAdd, Int.reduceSub, Int.reduceMul, Int.reduceToNat, Int.reduceNeg, Nat.reduceEqDiff, Nat.reduceLeDiff, Nat.reduceSub, Nat.reduceMul, Nat.reduceLT, Nat.reduceBEq, Nat.reduceAdd]
            rw [← take_elt (t := .int .i64) hlt2, delF_snoc]
            rfl
          · have hk2 : k = bs.length := by omega
            subst hk2
            rw [List.take_length]
            exact nd_intro (by omega) (And.intro (by omega) (nd_intro (by omega) h6))
  · exact h.elim
end Go.V
namespace Go.V
open Go.Proofs
set_option maxRecDepth 100000
set_option linter.unusedSimpArgs false
set_option linter.unnecessarySimpa false
set_option linter.unusedVariables false
/-- text: of an operation's bytes, so many times over. -/
def txS (B : List UInt8) (b : List UInt8) : List UInt8 := if b.length + B.length ≤ 6000 then b ++ B else b
def txN (B : List UInt8) : Nat → List UInt8
  | 0 => []
  | n + 1 => txS B (txN B n)
def txF (n : Int) (B : List UInt8) : List UInt8 := txN B (min (max n 0) 60).toNat
theorem txN_length (B : List UInt8) : ∀ n, (txN B n).length ≤ 6000
  | 0 => Nat.zero_le _
  | n + 1 => by
    have := txN_length B n
    show (txS B (txN B n)).length ≤ 6000
    unfold txS
    split
    · rw [List.length_append]; assumption
    · exact this
theorem txF_length (n : Int) (B : List UInt8) : (txF n B).length ≤ 6000 := txN_length B _
def A16 (k n : Int) (p : Bool) (B : List UInt8) (m : Int) : LoopAnn := cntA (fun i => ⟨[(1, .ptr 0 0), (3, .own 1), (7, .int .i64 m), (8, .int .i64 i)], [.struct [.int .i64 k, .int .i64 n, .sl p 1 .byte B], .row true 1 .byte (txN B i)]⟩) m.toNat
def C16 : Contract := fun args hp K => match args, hp with
  | [.agg [.int .i64 k, .int .i64 n, x]], [] => onB x fun B => K (.own 0) [.row true 1 .byte (txF n B)]
  | _, _ => False
theorem s16 : Sound Try.prog 16 C16 := by
  refine sound_of_okF ok16 (Γ := []) .nil ?_
  intro args hp K h
  unfold C16 at h
  split at h
  · rename_i k n x
    obtain ⟨p, B, rfl, h⟩ := h
    refine ⟨by simp, [(1, A16 k n p B (min (max n 0) 60))], ?_⟩
    simp (maxSteps := 2000000) only [a16, r16, go_sem, eq_self, and_self, Int.natCast_pos, Int.le_refl, Nat.le_refl, Int.natCast_nonneg, Int.ofNat_lt, Int.ofNat_le, Int.reduceLT, Int.reduceLE, Int.reduceEq, Int.reduceNe, Int.reduceAdd, Int.reduceSub, Int.reduceMul, Int.reduceToNat, Int.reduceNeg, Nat.reduceEqDiff, Nat.reduceLeDiff, Nat.reduceSub, Nat.reduceMul, Nat.reduceLT, Nat.reduceBEq, Nat.reduceAdd]
    rintro m hm m1 hm1
    have e : m1 = min (max n 0) 60 := by rw [hm1, hm]; split <;> split <;> omega
    clear hm hm1
    subst e
    have hm0 : 0 ≤ min (max n 0) 60 ∧ min (max n 0) 60 ≤ 60 := by omega
    unfold txF at h
    generalize min (max n 0) 60 = m at *
    refine loop_intro (A := A16 k n p B m) (0 : Nat) ?_ (Nat.zero_le _) ?_
    · simp (maxSteps := 2000000) only [A16, cntA_I, go_sem, eq_self, and_self, Int.natCast_pos, Int.le_refl, Nat.le_refl, Int.natCast_nonneg, Int.ofNat_lt, Int.ofNat_le, Int.reduceLT, Int.reduceLE, Int.reduceEq, Int.reduceNe, Int.reduceAdd, Int.reduceSub, Int.reduceMul, Int.reduceToNat, Int.reduceNeg, Nat.reduceEqDiff, Nat.reduceLeDiff, Nat.reduceSub, Nat.reduceMul, Nat.reduceLT, Nat.reduceBEq, Nat.reduceAdd]
      rfl
    · intro (i : Nat) (hi : i ≤ m.toNat)
      simp (maxSteps := 2000000) only [A16, cntA_I, go_sem, eq_self, and_self, Int.natCast_pos, Int.le_refl, Nat.le_refl, Int.natCast_nonneg, Int.ofNat_lt, Int.ofNat_le, Int.reduceLT, Int.reduceLE, Int.reduceEq, Int.reduceNe, Int.reduceAdd, Int.reduceSub, Int.reduceMul, Int.reduceToNat, Int.reduceNeg, Nat.reduceEqDiff, Nat.reduceLeDiff, Nat.reduceSub, Nat.reduceMul, Nat.reduceLT, Nat.reduceBEq, Nat.reduceAdd]
      have hl := txN_length B i
      refine swd (fun hlt => ?_) (fun hge => ?_)
      · rintro _ _ m2 rfl _ hBl m3 rfl _ _ m4 hm4
        rw [w64 (by omega)] at hm4
        subst hm4
        refine swd (fun e => ?_) (fun e => ?_)
        · refine And.intro (fun _ _ => by omega) (fun _ => ?_)
          rintro _ _ m5 hm5
          rw [w64 (by omega)] at hm5
          subst hm5
          refine cntA_next (by omega) ?_
          simp (maxSteps := 2000000) only [go_sem, eq_self, and_self, Int.natCast_pos, Int.le_refl, Nat.le_refl, Int.natCast_nonneg, Int.ofNat_lt, Int.ofNat_le, Int.reduceLT, Int.reduceLE, Int.reduceEq, Int.reduceNe, Int.reduceAdd, Int.reduceSub, Int.reduceMul, Int.reduceToNat, Int.reduceNeg, Nat.reduceEqDiff, Nat.reduceLeDiff, Nat.reduceSub, Nat.reduceMul, Nat.reduceLT, Nat.reduceBEq, Nat.reduceAdd]
          have e2 : txN B i ++ B = txN B (i + 1) := by
            show _ = txS B (txN B i)
            unfold txS
            rw [if_pos (by omega)]
          rw [e2]
          rfl
        · rintro _ _ m5 hm5
          rw [w64 (by omega)] at hm5
          subst hm5
          refine cntA_next (by omega) ?_
          simp (maxSteps := 2000000) only [go_sem, eq_self, and_self, Int.natCast_pos, Int.le_refl, Nat.le_refl, Int.natCast_nonneg, Int.ofNat_lt, Int.ofNat_le, Int.reduceLT, Int.reduceLE, Int.reduceEq, Int.reduceNe, Int.reduceAdd, Int.reduceSub, Int.reduceMul, Int.reduceToNat, Int.reduceNeg, Nat.reduceEqDiff, Nat.reduceLeDiff, Nat.reduceSub, Nat.reduceMul, Nat.reduceLT, Nat.reduceBEq, Nat.reduceAdd]
          have e2 : txN B i = txN B (i + 1) := by
            show _ = txS B (txN B i)
            unfold txS
            rw [if_neg (by omega)]
          rw [← e2]
          rfl
      · have : i = m.toNat := by omega
        subst this
        exact h
  · exact h.elim

abbrev KpT : Ty := .pair (.int .i64) .str
/-- names -/
def C22 : Contract := fun args hp K => match args, hp with
  | [.sl p 24 (.pair (.int .i64) .str) l], [] => K (.own 0) [.row true 8 (.int .i64) ((l : List KpT.den).map Prod.fst)]
  | _, _ => False
def A22 (p : Bool) (l : List KpT.den) : LoopAnn := cntA (fun i => ⟨[(0, .sl p 24 (.pair (.int .i64) .str) l), (3, .own 0), (6, .int .i64 l.length), (7, .int .i64 i)], [.row true 8 (.int .i64) ((l.take i).map Prod.fst)]⟩) l.length
theorem s22 : Sound Try.prog 22 C22 := by
  refine sound_of_okF ok22 (Γ := []) .nil ?_
  intro args hp K h
  unfold C22 at h
  split at h
  · rename_i p l
    refine ⟨by simp, [(1, A22 p l)], ?_⟩
    simp (maxSteps := 2000000) only [a22, r22, go_sem, eq_self, and_self, Int.natCast_pos, Int.le_refl, Nat.le_refl, Int.natCast_nonneg, Int.ofNat_lt, Int.ofNat_le, Int.reduceLT, Int.reduceLE, Int.reduceEq, Int.reduceNe, Int.reduceAdd, Int.reduceSub, Int.reduceMul, Int.reduceToNat, Int.reduceNeg, Nat.reduceEqDiff, Nat.reduceLeDiff, Nat.reduceSub, Nat.reduceMul, Nat.reduceLT, Nat.reduceBEq, Nat.reduceAdd]
    rintro _ _ m rfl
    refine loop_intro (A := A22 p l) (0 : Nat) ?_ (Nat.zero_le _) ?_
    · simp (maxSteps := 2000000) only [A22, cntA_I, go_sem, eq_self, and_self, Int.natCast_pos, Int.le_refl, Nat.le_refl, Int.natCast_nonneg, Int.ofNat_lt, Int.ofNat_le, Int.reduceLT, Int.reduceLE, Int.reduceEq, Int.reduceNe, Int.reduceAdd, Int.reduceSub, Int.reduceMul, Int.reduceToNat, Int.reduceNeg, Nat.reduceEqDiff, Nat.reduceLeDiff, Nat.reduceSub, Nat.reduceMul, Nat.reduceLT, Nat.reduceBEq, Nat.reduceAdd]
      rfl
    · intro (i : Nat) (hi : i ≤ l.length)
      simp (maxSteps := 2000000) only [A22, cntA_I, go_sem, eq_self, and_self, Int.natCast_pos, Int.le_refl, Nat.le_refl, Int.natCast_nonneg, Int.ofNat_lt, Int.ofNat_le, Int.reduceLT, Int.reduceLE, Int.reduceEq, Int.reduceNe, Int.reduceAdd, Int.reduceSub, Int.reduceMul, Int.reduceToNat, Int.reduceNeg, Nat.reduceEqDiff, Nat.reduceLeDiff, Nat.reduceSub, Nat.reduceMul, Nat.reduceLT, Nat.reduceBEq, Nat.reduceAdd]
      refine swd (fun hlt => ?_) (fun hge => ?_)
      · refine nd_intro hlt (And.intro (fun _ => by rw [List.length_map, List.length_take]; omega) (fun _ => ?_))
        rintro _ _ m hm
        rw [w64 (by omega)] at hm
        subst hm
        refine cntA_next hlt ?_
        simp (maxSteps := 2000000) only [go_sem, eq_self, and_self, Int.natCast_pos, Int.le_refl, Nat.le_refl, Int.natCast_nonneg, Int.ofNat_lt, Int.ofNat_le, Int.reduceLT, Int.reduceLE, Int.reduceEq, Int.reduceNe, Int.reduceAdd, Int.reduceSub, Int.reduceMul, Int.reduceToNat, Int.reduceNeg, Nat.reduceEqDiff, Nat.reduceLeDiff, Nat.reduceSub, Nat.reduceMul, Nat.reduceLT, Nat.reduceBEq, Nat.reduceAdd]
        rw [← take_elt (t := KpT) hlt, List.map_append]
        rfl
      · have : i = l.length := by omega
        subst this
        rw [List.take_length]
        exact h
  · exact h.elim

/-- Whole -/
def seenL (fr : Int) (n : Nat) (E : List Int) : List Bool := (List.range n).map fun j : Nat => decide (fr + (j : Int) ∈ E)
theorem seenL_length (fr : Int) (n : Nat) (E : List Int) : (seenL fr n E).length = n := by simp [seenL]
theorem seenL_get {fr : Int} {n : Nat} {E : List Int} {x : Int} (h0 : fr ≤ x) (h1 : x < fr + n) : (seenL fr n E)[(x - fr).toNat]? = some (decide (x ∈ E)) := by
  have h2 : (x - fr).toNat < n := by omega
  simp only [seenL, List.getElem?_map, List.getElem?_range h2, Option.map_some]
  rw [show fr + (((x - fr).toNat : Nat) : Int) = x by omega]
theorem seenL_set {fr : Int} {n : Nat} {E : List Int} {x : Int} (h0 : fr ≤ x) (h1 : x < fr + n) : (seenL fr n E).set (x - fr).toNat true = seenL fr n (E ++ [x]) := by
  apply List.ext_getElem?
  intro j
  rw [List.getElem?_set, seenL_length]
  by_cases hj : (x - fr).toNat = j
  · rw [if_pos hj, if_pos (by omega), ← hj, seenL_get h0 h1]
    simp
  · rw [if_neg hj]
    unfold seenL
    simp only [List.getElem?_map]
    by_cases hjn : j < n
    · rw [List.getElem?_range hjn]
      simp only [Option.map_some, Option.some.injEq, List.mem_append, List.mem_singleton]
      apply decide_eq_decide.2
      constructor
      · exact .inl
      · rintro (h | h)
        · exact h
        · omega
    · rw [List.getElem?_eq_none (by simp; omega)]; rfl
structure WhOk (fr to : Int) (ls : List (List Int)) : Prop where
  lo : 0 ≤ fr
  le : fr ≤ to
  hi : to ≤ 1000000
  nd : ls.flatten.Nodup
  mem : ∀ x ∈ ls.flatten, fr ≤ x ∧ x < to
  inc : ∀ l ∈ ls, l.Pairwise (· < ·)
  len : (ls.flatten.length : Int) = to - fr
def A37 (fr to : Int) (p : Bool) (ls : List (List Int)) : LoopAnn := cntA (fun i => ⟨[(0, .int .i64 fr), (1, .int .i64 to), (2, .sl p 24 (.sl 8 (.int .i64)) ls), (7, .own 0), (8, .int .i64 (ls.take i).flatten.length), (18, .int .i64 ls.length), (19, .int .i64 i)],
  [.row true 1 .bool (seenL fr (to - fr).toNat (ls.take i).flatten)]⟩) ls.length
structure H37 where
  i : Nat
  k : Nat
def eL (ls : List (List Int)) (i k : Nat) : List Int := (ls.take i).flatten ++ (elt (.sl 8 (.int .i64)) ls i).take k
def B37 (fr to : Int) (p : Bool) (ls : List (List Int)) : LoopAnn := {
  G := H37
  I := fun g => ⟨[(0, .int .i64 fr), (1, .int .i64 to), (2, .sl p 24 (.sl 8 (.int .i64)) ls), (7, .own 0), (8, .int .i64 (eL ls g.i g.k).length), (9, .int .i64 g.i), (18, .int .i64 ls.length), (19, .int .i64 g.i),
      (25, .sl p 8 (.int .i64) (elt (.sl 8 (.int .i64)) ls g.i)), (26, .int .i64 (List.length (elt (.sl 8 (.int .i64)) ls g.i))), (27, .int .i64 g.k)],
    [.row true 1 .bool (seenL fr (to - fr).toNat (eL ls g.i g.k))]⟩
  R := fun g0 g => g.i = g0.i ∧ g.k ≤ List.length (elt (.sl 8 (.int .i64)) ls g.i)
  μ := fun g => List.length (elt (.sl 8 (.int .i64)) ls g.i) - g.k }
theorem eL_zero (ls : List (List Int)) (i : Nat) : eL ls i 0 = (ls.take i).flatten := by simp [eL]
theorem eL_succ {ls : List (List Int)} {i k : Nat} (hk : k < List.length (elt (.sl 8 (.int .i64)) ls i)) : eL ls i (k + 1) = eL ls i k ++ [elt (.int .i64) (elt (.sl 8 (.int .i64)) ls i) k] := by
  unfold eL
  rw [List.append_assoc, take_elt (t := .int .i64) hk]
theorem eL_end {ls : List (List Int)} {i : Nat} (hi : i < ls.length) : eL ls i (List.length (elt (.sl 8 (.int .i64)) ls i)) = (ls.take (i + 1)).flatten := by
  unfold eL
  rw [List.take_length, ← take_elt (t := .sl 8 (.int .i64)) hi, List.flatten_append]
  simp
theorem eL_rest {ls : List (List Int)} {i k : Nat} (hi : i < ls.length) (hk : k < List.length (elt (.sl 8 (.int .i64)) ls i)) :
    ∃ r, ls.flatten = eL ls i k ++ elt (.int .i64) (elt (.sl 8 (.int .i64)) ls i) k :: r := by
  have h1 : ls = ls.take i ++ (elt (.sl 8 (.int .i64)) ls i :: ls.drop (i + 1)) := by
    rw [← drop_elt (t := .sl 8 (.int .i64)) hi, List.take_append_drop]
  have h2 : elt (.sl 8 (.int .i64)) ls i = List.take k (elt (.sl 8 (.int .i64)) ls i) ++ (elt (.int .i64) (elt (.sl 8 (.int .i64)) ls i) k :: List.drop (k + 1) (elt (.sl 8 (.int .i64)) ls i)) := by
    rw [← drop_elt (t := .int .i64) hk, List.take_append_drop]
  refine ⟨List.drop (k + 1) (elt (.sl 8 (.int .i64)) ls i) ++ (ls.drop (i + 1)).flatten, ?_⟩
  have h3 : ls.flatten = (ls.take i).flatten ++ (elt (.sl 8 (.int .i64)) ls i ++ (ls.drop (i + 1)).flatten) := by
    conv => lhs; rw [h1]
    rw [List.flatten_append, List.flatten_cons]
  rw [h3]
  unfold eL
  conv => lhs; rw [h2]
  simp
theorem J37 (fr to p ls) (g : H37) : (B37 fr to p ls).I g = ⟨[(0, .int .i64 fr), (1, .int .i64 to), (2, .sl p 24 (.sl 8 (.int .i64)) ls), (7, .own 0), (8, .int .i64 (eL ls g.i g.k).length), (9, .int .i64 g.i), (18, .int .i64 ls.length), (19, .int .i64 g.i),
      (25, .sl p 8 (.int .i64) (elt (.sl 8 (.int .i64)) ls g.i)), (26, .int .i64 (List.length (elt (.sl 8 (.int .i64)) ls g.i))), (27, .int .i64 g.k)],
    [.row true 1 .bool (seenL fr (to - fr).toNat (eL ls g.i g.k))]⟩ := rfl
def C37 : Contract := fun args hp K => match args, hp with
  | [.int .i64 fr, .int .i64 to, .sl p 24 (.sl 8 (.int .i64)) ls], [] => WhOk fr to ls ∧ K (.bool true) []
  | _, _ => False
theorem s37 : Sound Try.prog 37 C37 := by
  refine sound_of_okF ok37 (Γ := []) .nil ?_
  intro args hp K h
  unfold C37 at h
  split at h
  · rename_i fr to p ls
    obtain ⟨ok, h⟩ := h
    obtain ⟨hlo, hle, hhi, hnd, hmem, hinc, hlen⟩ := ok
    refine ⟨by simp, [(1, A37 fr to p ls), (2, B37 fr to p ls)], ?_⟩
    simp (maxSteps := 2000000) only [a37, r37, go_sem, eq_self, and_self, Int.natCast_pos, Int.le_refl, Nat.le_refl, Int.natCast_nonneg, Int.ofNat_lt, Int.ofNat_le, Int.reduceLT, Int.reduceLE, Int.reduceEq, Int.reduceNe, Int.reduceAdd, Int.reduceSub, Int.reduceMul, Int.reduceToNat, Int.reduceNeg, Nat.reduceEqDiff, Nat.reduceLeDiff, Nat.reduceSub, Nat.reduceMul, Nat.reduceLT, Nat.reduceBEq, Nat.reduceAdd]
    rintro _ _ m hm m1 hm1
    rw [w64 (by omega)] at hm
    rw [if_neg (by omega)] at hm1
    subst hm1
    subst hm
    refine And.intro (by omega) ?_
    rintro _ _ m rfl
    refine loop_intro (A := A37 fr to p ls) (0 : Nat) ?_ (Nat.zero_le _) ?_
    · simp (maxSteps := 2000000) only [A37, cntA_I, go_sem, eq_self, and_self, Int.natCast_pos, Int.le_refl, Nat.le_refl, Int.natCast_nonneg, Int.ofNat_lt, Int.ofNat_le, Int.reduceLT, Int.reduceLE, Int.reduceEq, Int.reduceNe, Int.reduceAdd, Int.reduceSub, Int.reduceMul, Int.reduceToNat, Int.reduceNeg, Nat.reduceEqDiff, Nat.reduceLeDiff, Nat.reduceSub, Nat.reduceMul, Nat.reduceLT, Nat.reduceBEq, Nat.reduceAdd]
      have e : List.replicate (to - fr).toNat false = seenL fr (to - fr).toNat (List.take 0 ls).flatten := by
        simp only [seenL, List.take_zero, List.flatten_nil, List.not_mem_nil, decide_false]
        rw [List.map_const', List.length_range]
      rw [e]
      rfl
    · intro (i : Nat) (hi : i ≤ ls.length)
      simp (maxSteps := 2000000) only [A37, cntA_I, go_sem, eq_self, and_self, Int.natCast_pos, Int.le_refl, Nat.le_refl, Int.natCast_nonneg, Int.ofNat_lt, Int.ofNat_le, Int.reduceLT, Int.reduceLE, Int.reduceEq, Int.reduceNe, Int.reduceAdd, Int.reduceSub, Int.reduceMul, Int.reduceToNat, Int.reduceNeg, Nat.reduceEqDiff, Nat.reduceLeDiff, Nat.reduceSub, Nat.reduceMul, Nat.reduceLT, Nat.reduceBEq, Nat.reduceAdd]
      refine swd (fun hlt => ?_) (fun hge => ?_)
      · refine nd_intro hlt ?_
        rintro _ _ m rfl
        refine loop_intro (A := B37 fr to p ls) (⟨i, 0⟩ : H37) ?_ ⟨rfl, Nat.zero_le _⟩ ?_
        · simp (maxSteps := 2000000) only [J37, eL_zero, go_sem, eq_self, and_self, Int.natCast_pos, Int.le_refl, Nat.le_refl, Int.natCast_nonneg, Int.ofNat_lt, Int.ofNat_le, Int.reduceLT, Int.reduceLE, Int.reduceEq, Int.reduceNe, Int.reduceAdd, Int.reduceSub, Int.reduceMul, Int.reduceToNat, Int.reduceNeg, Nat.reduceEqDiff, Nat.reduceLeDiff, Nat.reduceSub, Nat.reduceMul, Nat.reduceLT, Nat.reduceBEq, Nat.reduceAdd]
          rfl
        · rintro (g : H37) ⟨g1, g2⟩
          obtain ⟨gi, k⟩ := g
          simp only at g1 g2
          subst g1
          simp (maxSteps := 2000000) only [J37, go_sem, eq_self, and_self, Int.natCast_pos, Int.le_refl, Nat.le_refl, Int.natCast_nonneg, Int.ofNat_lt, Int.ofNat_le, Int.reduceLT, Int.reduceLE, Int.reduceEq, Int.reduceNe, Int.reduceAdd, Int.reduceSub, Int.reduceMul, Int.reduceToNat, Int.reduceNeg, Nat.reduceEqDiff, Nat.reduceLeDiff, Nat.reduceSub, Nat.reduceMul, Nat.reduceLT, Nat.reduceBEq, Nat.reduceAdd]
          refine swd (fun hlt2 => ?_) (fun hge2 => ?_)
          · obtain ⟨r, hr⟩ := eL_rest hlt hlt2
            have hsx := eL_succ hlt2
            have hxs := hinc _ (List.mem_of_getElem? (elt_get (t := .sl 8 (.int .i64)) hlt))
            refine nd_intro hlt2 ?_
            have hk1 : k ≠ 0 → elt (.int .i64) (elt (.sl 8 (.int .i64)) ls gi) (k - 1) < elt (.int .i64) (elt (.sl 8 (.int .i64)) ls gi) k := fun hk => by
              have h1 := elt_get (t := .int .i64) hlt2
              have h2 := elt_get (t := .int .i64) (xs := elt (.sl 8 (.int .i64)) ls gi) (m := k - 1) (by omega)
              obtain ⟨a1, a2⟩ := List.getElem?_eq_some_iff.1 h1
              obtain ⟨b1, b2⟩ := List.getElem?_eq_some_iff.1 h2
              rw [← a2, ← b2]
              exact List.pairwise_iff_getElem.1 hxs (k - 1) k b1 a1 (by omega)
            generalize hx : elt (.int .i64) (elt (.sl 8 (.int .i64)) ls gi) k = x at *
            have hm := hmem x (by rw [hr]; simp)
            have hnx : x ∉ eL ls gi k := fun hin => by
              have h1 := hnd
              rw [hr] at h1
              exact (List.nodup_append.1 h1).2.2 x hin x (by simp) rfl
            have hln : ls.flatten.length = (eL ls gi k).length + (r.length + 1) := by rw [hr, List.length_append, List.length_cons]
            refine swd (fun e => by omega) (fun _ => ?_)
            refine swd (fun e => by omega) (fun _ => ?_)
            rintro _ _ m hm2
            rw [w64 (by omega)] at hm2
            subst hm2
            rw [seenL_length]
            refine nd_intro (by omega) (nd_intro (by omega) ?_)
            have hsg : elt .bool (seenL fr (to - fr).toNat (eL ls gi k)) (x - fr).toNat = false := by
              have h1 := seenL_get (fr := fr) (n := (to - fr).toNat) (E := eL ls gi k) (x := x) (by omega) (by omega)
              rw [elt_eq (t := .bool) h1]
              exact decide_eq_false hnx
            rw [hsg]
            refine sw_intro (fun e => by cases e) (fun _ => ?_)
            refine swd (fun ek => ?_) (fun ek => ?_)
            · refine nd_intro hlt ?_
              rintro _ _ m hm2
              rw [w64 (by omega)] at hm2
              have hmk : m.toNat = k - 1 := by omega
              refine nd_intro (by omega) (nd_intro (by omega) ?_)
              rw [hmk]
              refine swd (fun e => absurd e (Int.not_le.2 (hk1 (by omega)))) (fun _ => ?_)
              rintro _ _ m hm
              rw [w64 (by omega)] at hm
              subst hm
              refine nd_intro (by omega) (nd_intro (by omega) ?_)
              rw [seenL_set (by omega) (by omega)]
              rintro _ _ m hm
              rw [w64 (by omega)] at hm
              subst hm
              rintro _ _ m hm
              rw [w64 (by omega)] at hm
              subst hm
              refine lpE_intro (A := B37 fr to p ls) (⟨gi, k + 1⟩ : H37) ?_ ⟨rfl, hlt2⟩ (by show List.length (elt (.sl 8 (.int .i64)) ls gi) - (k + 1) < List.length (elt (.sl 8 (.int .i64)) ls gi) - k; omega)
              simp (maxSteps := 2000000) only [J37, go_sem, eq_self, and_self, Int.natCast_pos, Int.le_refl, Nat.le_refl, Int.natCast_nonneg, Int.ofNat_lt, Int.ofNat_le, Int.reduceLT, Int.reduceLE, Int.reduceEq, Int.reduceNe, Int.reduceAdd, Int.reduceSub, Int.reduceMul, Int.reduceToNat, Int.reduceNeg, Nat.reduceEqDiff, Nat.reduceLeDiff, Nat.reduceSub, Nat.reduceMul, Nat.reduceLT, Nat.reduceBEq, Nat.reduceAdd]
              rw [hsx, List.length_append, List.length_singleton]
              rfl
            · skip
              rintro _ _ m hm
              rw [w64 (by omega)] at hm
              subst hm
              refine nd_intro (by omega) (nd_intro (by omega) ?_)
              rw [seenL_set (by omega) (by omega)]
              rintro _ _ m hm
              rw [w64 (by omega)] at hm
              subst hm
              rintro _ _ m hm
              rw [w64 (by omega)] at hm
              subst hm
              refine lpE_intro (A := B37 fr to p ls) (⟨gi, k + 1⟩ : H37) ?_ ⟨rfl, hlt2⟩ (by show List.length (elt (.sl 8 (.int .i64)) ls gi) - (k + 1) < List.length (elt (.sl 8 (.int .i64)) ls gi) - k; omega)
              simp (maxSteps := 2000000) only [J37, go_sem, eq_self, and_self, Int.natCast_pos, Int.le_refl, Nat.le_refl, Int.natCast_nonneg, Int.ofNat_lt, Int.ofNat_le, Int.reduceLT, Int.reduceLE, Int.reduceEq, Int.reduceNe, Int.reduceAdd, Int.reduceSub, Int.reduceMul, Int.reduceToNat, Int.reduceNeg, Nat.reduceEqDiff, Nat.reduceLeDiff, Nat.reduceSub, Nat.reduceMul, Nat.reduceLT, Nat.reduceBEq, Nat.reduceAdd]
              rw [hsx, List.length_append, List.length_singleton]
              rfl
          · have : k = List.length (elt (.sl 8 (.int .i64)) ls gi) := by omega
            subst this
            rintro _ _ m hm
            rw [w64 (by omega)] at hm
            subst hm
            refine cntA_next hlt ?_
            simp (maxSteps := 2000000) only [go_sem, eq_self, and_self, Int.natCast_pos, Int.le_refl, Nat.le_refl, Int.natCast_nonneg, Int.ofNat_lt, Int.ofNat_le, Int.reduceLT, Int.reduceLE, Int.reduceEq, Int.reduceNe, Int.reduceAdd, Int.reduceSub, Int.reduceMul, Int.reduceToNat, Int.reduceNeg, Nat.reduceEqDiff, Nat.reduceLeDiff, Nat.reduceSub, Nat.reduceMul, Nat.reduceLT, Nat.reduceBEq, Nat.reduceAdd]
            rw [eL_end hlt]
            rfl
      · have : i = ls.length := by omega
        subst this
        rw [List.take_length, seenL_length]
        rintro _ _ m rfl
        rintro c hc
        have : c = true := by rw [hc]; exact decide_eq_true (by omega)
        subst this
        exact h
  · exact h.elim
end Go.V
namespace Go.V
open Go.Proofs
set_option maxRecDepth 100000
set_option linter.unusedSimpArgs false
set_option linter.unnecessarySimpa false
set_option linter.unusedVariables false
def bkT (T : List (Int × List Int)) (n : Int) : List Int := (lkT' T n).getD []
def onesL' (bs : List Int) : List (List Int) := bs.map fun b => [b]
def lsL (T : List (Int × List Int)) (F : List (Int × Bool)) (l : List KpT.den) : List (List Int) := srtI (vt := .bool) F :: l.flatMap fun x => onesL' (bkT T x.1)
theorem lsL_length {T : List (Int × List Int)} {F : List (Int × Bool)} : ∀ (l : List KpT.den), (∀ x ∈ l, (bkT T x.1).length ≤ 1000) → (lsL T F l).length ≤ 1 + 1000 * l.length
  | [], _ => by simp [lsL]
  | x :: r, h => by
    have ih := lsL_length (T := T) (F := F) r (fun y hy => h y (List.mem_cons_of_mem _ hy))
    have hx := h x (by simp)
    simp only [lsL, List.length_cons, List.flatMap_cons, List.length_append, onesL', List.length_map] at ih ⊢
    omega
theorem lsL_snoc {T : List (Int × List Int)} {F : List (Int × Bool)} (l : List KpT.den) (x : KpT.den) : lsL T F (l ++ [x]) = lsL T F l ++ onesL' (bkT T x.1) := by
  simp [lsL, List.flatMap_append]
theorem onesL'_snoc (l : List Int) (b : Int) : onesL' (l ++ [b]) = onesL' l ++ [[b]] := by simp [onesL']
structure EntOk (bl : List ByT.den) (T : List (Int × List Int)) (x : KpT.den) (bs : List Int) : Prop where
  lk : lkT' T x.1 = some bs
  len : bs.length = needN x.2.size
  hd : elt (.int .i64) bs 0 = x.1
  rd : ∀ b ∈ bs, rdOk bl b
  txt : bs.flatMap (pl4 bl) = x.2.data.toList
  sz : x.2.size ≤ 20000
structure Gd (fr ct : Int) (bl : List ByT.den) (T : List (Int × List Int)) (F : List (Int × Bool)) (l : List KpT.den) : Prop where
  lenT : T.length = l.length
  bT : l.length ≤ 1000000
  bF : F.length ≤ 1000000
  inc : (srtI (vt := .sl 8 (.int .i64)) T).Pairwise (· < ·)
  ent : ∀ x ∈ l, ∃ bs, EntOk bl T x bs
  who : WhOk fr (fr + ct) (lsL T F l)
def A23 (fr0 : Int) (T : List (Int × List Int)) (F : List (Int × Bool)) (bl : List ByT.den) (lg : List LgT.den) (f : Int) (dn : Bool) (fr ct : Int) (p : Bool) (l : List KpT.den) : LoopAnn :=
  cntA (fun i => ⟨[(0, .ptr 0 0), (1, .sl p 24 (.pair (.int .i64) .str) l), (2, .int .i64 fr), (3, .int .i64 ct), (9, .own 6), (10, .own 7), (27, .int .i64 l.length), (28, .int .i64 i)],
    pgH false fr0 T F bl lg f dn ++ [.row true 8 (.int .i64) (srtI (vt := .sl 8 (.int .i64)) T), .row true 24 (.sl 8 (.int .i64)) (lsL T F (l.take i))]⟩) l.length
structure H23 where
  i : Nat
  bs : List Int
  k : Nat
def B23 (fr0 : Int) (T : List (Int × List Int)) (F : List (Int × Bool)) (bl : List ByT.den) (lg : List LgT.den) (f : Int) (dn : Bool) (fr ct : Int) (p : Bool) (l : List KpT.den) : LoopAnn := {
  G := H23
  I := fun g => ⟨[(0, .ptr 0 0), (1, .sl p 24 (.pair (.int .i64) .str) l), (2, .int .i64 fr), (3, .int .i64 ct), (9, .own 6), (10, .own 7), (14, .own 8), (27, .int .i64 l.length), (28, .int .i64 g.i), (96, .int .i64 g.bs.length), (97, .int .i64 g.k)],
    pgH false fr0 T F bl lg f dn ++ [.row true 8 (.int .i64) (srtI (vt := .sl 8 (.int .i64)) T), .row true 24 (.sl 8 (.int .i64)) (lsL T F (l.take g.i) ++ onesL' (g.bs.take g.k)), .row true 8 (.int .i64) g.bs]⟩
  R := fun g0 g => g.i = g0.i ∧ g.bs = g0.bs ∧ g.k ≤ g.bs.length
  μ := fun g => g.bs.length - g.k }
theorem J23 (fr0 T F bl lg f dn fr ct p l) (g : H23) : (B23 fr0 T F bl lg f dn fr ct p l).I g = ⟨[(0, .ptr 0 0), (1, .sl p 24 (.pair (.int .i64) .str) l), (2, .int .i64 fr), (3, .int .i64 ct), (9, .own 6), (10, .own 7), (14, .own 8), (27, .int .i64 l.length), (28, .int .i64 g.i), (96, .int .i64 g.bs.length), (97, .int .i64 g.k)],
    pgH false fr0 T F bl lg f dn ++ [.row true 8 (.int .i64) (srtI (vt := .sl 8 (.int .i64)) T), .row true 24 (.sl 8 (.int .i64)) (lsL T F (l.take g.i) ++ onesL' (g.bs.take g.k)), .row true 8 (.int .i64) g.bs]⟩ := rfl
/-- alike -/
def C23 : Contract := fun args hp K => match args with
  | [.ptr 0 0, .sl p 24 (.pair (.int .i64) .str) l, .int .i64 fr, .int .i64 ct] => onPg hp fun fr0 T F bl lg f dn => dn = false ∧ Gd fr ct bl T F l ∧ K (.bool true) (pgH false fr0 T F bl lg f dn)
  | _ => False
theorem s23 : Sound Try.prog 23 C23 := by
  refine sound_of_okF ok23 (Γ := [(13, C13), (14, C14), (15, C15), (17, C17), (19, C19), (37, C37)]) (.cons s13 (callable_of_okF ok13) (.cons s14 (callable_of_okF ok14) (.cons s15 (callable_of_okF ok15) (.cons s17 (callable_of_okF ok17) (.cons s19 (callable_of_okF ok19) (.cons s37 (callable_of_okF ok37) .nil)))))) ?_
  intro args hp K h
  unfold C23 at h
  split at h
  · rename_i p l fr ct
    obtain ⟨fr0, T, F, bl, lg, f, dn, rfl, hd, hg, h⟩ := h
    obtain ⟨gT, gl, gF, ginc, gent, gwho⟩ := hg
    refine ⟨by simp, [(1, A23 fr0 T F bl lg f dn fr ct p l), (2, B23 fr0 T F bl lg f dn fr ct p l)], ?_⟩
    unfold pgH at h ⊢
    simp (maxSteps := 2000000) only [a23, r23, C19, C15, pgH, go_sem, eq_self, and_self, Int.natCast_pos, Int.le_refl, Nat.le_refl, Int.natCast_nonneg, Int.ofNat_lt, Int.ofNat_le, Int.reduceLT, Int.reduceLE, Int.reduceEq, Int.reduceNe, Int.reduceAdd, Int.reduceSub, Int.reduceMul, Int.reduceToNat, Int.reduceNeg, Nat.reduceEqDiff, Nat.reduceLeDiff, Nat.reduceSub, Nat.reduceMul, Nat.reduceLT, Nat.reduceBEq, Nat.reduceAdd]
    have hmx := maxLen_val
    refine And.intro (by omega) ?_
    rintro _ _ m rfl
    rintro _ _ m rfl
    refine swn (fun e => absurd (by rw [srtI_length, gT]) e) (fun _ => ?_)
    refine And.intro gF ?_
    rintro _ _ m rfl
    refine loop_intro (A := A23 fr0 T F bl lg f dn fr ct p l) (0 : Nat) ?_ (Nat.zero_le _) ?_
    · simp (maxSteps := 2000000) only [A23, cntA_I, pgH, go_sem, eq_self, and_self, Int.natCast_pos, Int.le_refl, Nat.le_refl, Int.natCast_nonneg, Int.ofNat_lt, Int.ofNat_le, Int.reduceLT, Int.reduceLE, Int.reduceEq, Int.reduceNe, Int.reduceAdd, Int.reduceSub, Int.reduceMul, Int.reduceToNat, Int.reduceNeg, Nat.reduceEqDiff, Nat.reduceLeDiff, Nat.reduceSub, Nat.reduceMul, Nat.reduceLT, Nat.reduceBEq, Nat.reduceAdd]
      rfl
    · intro (i : Nat) (hi : i ≤ l.length)
      simp (maxSteps := 2000000) only [A23, cntA_I, pgH, C14, C17, C13, C37, go_sem, eq_self, and_self, Int.natCast_pos, Int.le_refl, Nat.le_refl, Int.natCast_nonneg, Int.ofNat_lt, Int.ofNat_le, Int.reduceLT, Int.reduceLE, Int.reduceEq, Int.reduceNe, Int.reduceAdd, Int.reduceSub, Int.reduceMul, Int.reduceToNat, Int.reduceNeg, Nat.reduceEqDiff, Nat.reduceLeDiff, Nat.reduceSub, Nat.reduceMul, Nat.reduceLT, Nat.reduceBEq, Nat.reduceAdd]
      refine swd (fun hlt => ?_) (fun hge => ?_)
      · obtain ⟨bs, hent⟩ := gent _ (List.mem_of_getElem? (elt_get (t := KpT) hlt))
        obtain ⟨e1, e2, e3, e4, e5, e6⟩ := hent
        refine nd_intro hlt ?_
        have hls : (srtI (vt := .sl 8 (.int .i64)) T).length = l.length := by rw [srtI_length]; exact gT
        have hbk : bkT T (elt KpT l i).1 = bs := by unfold bkT; rw [e1]; rfl
        have hxt : ({ data := (bs.flatMap (pl4 bl)).toArray } : ByteArray) = (elt KpT l i).2 := by
          rw [e5]
        have hxl : (bs.flatMap (pl4 bl)).length = (elt KpT l i).2.size := by rw [e5, Array.length_toList]; rfl
        have hbl1 : 1 ≤ bs.length ∧ bs.length ≤ 1000 := by rw [e2]; unfold needN; omega
        refine And.intro (fun e => by rw [e1] at e; cases e) (fun bs' e => ?_)
        have e' : bs' = bs := by rw [e1] at e; exact (Option.some.inj e).symm
        subst e'
        refine And.intro ⟨hd, by omega, e4⟩ (nd_intro hlt ?_)
        rintro u rfl
        refine nd_intro hlt ?_
        refine swn (fun e => absurd hxt e) (fun _ => ?_)
        rw [e1, hxl]
        simp only [Option.getD_some]
        rintro _ _ m rfl _ _ m1 rfl
        refine And.intro (by omega) (And.intro (fun _ _ m2 hm2 => by rw [hm2]) ?_)
        rw [Int.toNat_natCast]
        refine swn (fun e => absurd (by rw [e2]) e) (fun _ => ?_)
        refine nd_intro (by omega) (nd_intro hlt ?_)
        refine swn (fun e => absurd e3 e) (fun _ => ?_)
        refine swd (fun ei => ?_) (fun ei => ?_)
        focus
          rintro _ _ m hm
          rw [w64 (by omega)] at hm
          have hm1 : m.toNat = i - 1 := by omega
          rw [hls]
          refine nd_intro (by omega) (nd_intro (by omega) (nd_intro hlt ?_))
          rw [hm1]
          refine swd (fun e => absurd e (Int.not_le.2 ?_)) (fun _ => ?_)
          · have h1 := elt_get (t := .int .i64) (xs := srtI (vt := .sl 8 (.int .i64)) T) (m := i) (by omega)
            have h2 := elt_get (t := .int .i64) (xs := srtI (vt := .sl 8 (.int .i64)) T) (m := i - 1) (by omega)
            obtain ⟨a1, a2⟩ := List.getElem?_eq_some_iff.1 h1
            obtain ⟨b1, b2⟩ := List.getElem?_eq_some_iff.1 h2
            rw [← a2, ← b2]
            exact List.pairwise_iff_getElem.1 ginc (i - 1) i b1 a1 (by omega)
          clear hm1 hm
        all_goals clear ei
        all_goals rintro _ _ m rfl
        all_goals refine loop_intro (A := B23 fr0 T F bl lg f dn fr ct p l) (⟨i, bs', 0⟩ : H23) ?_ ⟨rfl, rfl, Nat.zero_le _⟩ ?_
        all_goals first
          | (simp (maxSteps := 2000000) only [J23, pgH, go_sem, eq_self, and_self, Int.natCast_pos, Int.le_refl, Nat.le_refl, Int.natCast_nonneg, Int.ofNat_lt, Int.ofNat_le, Int.reduceLT, Int.reduceLE, Int.reduceEq, Int.reduceNe, Int.reduceAdd, Int.reduceSub, Int.reduceMul, Int.reduceToNat, Int.reduceNeg, Nat.reduceEqDiff, Nat.reduceLeDiff, Nat.reduceSub, Nat.reduceMul, Nat.reduceLT, Nat.reduceBEq, Nat.reduceAdd]
             rw [show onesL' (List.take 0 bs') = [] from rfl, List.append_nil]
             rfl)
          | skip
        all_goals rintro (g : H23) ⟨g1, g2, g3⟩
        all_goals obtain ⟨gi, gb, gk⟩ := g
        all_goals simp only at g1 g2 g3
        all_goals subst g1 g2
        all_goals simp (maxSteps := 2000000) only [J23, pgH, go_sem, eq_self, and_self, Int.natCast_pos, Int.le_refl, Nat.le_refl, Int.natCast_nonneg, Int.ofNat_lt, Int.ofNat_le, Int.reduceLT, Int.reduceLE, Int.reduceEq, Int.reduceNe, Int.reduceAdd, Int.reduceSub, Int.reduceMul, Int.reduceToNat, Int.reduceNeg, Nat.reduceEqDiff, Nat.reduceLeDiff, Nat.reduceSub, Nat.reduceMul, Nat.reduceLT, Nat.reduceBEq, Nat.reduceAdd]
        all_goals refine swd (fun hlt2 => ?_) (fun hge2 => ?_)
        all_goals first
          | (have hll := lsL_length (T := T) (F := F) (l.take gi) (fun x hx => by
               obtain ⟨b2, hb2⟩ := gent x (List.mem_of_mem_take hx)
               have h5 := hb2.len
               have h6 := hb2.sz
               unfold bkT
               rw [hb2.lk, Option.getD_some, h5]
               unfold needN
               omega)
             rw [List.length_take] at hll
             have hol : (onesL' (List.take gk gb)).length ≤ gk := by simp [onesL']; omega
             refine nd_intro hlt2 (And.intro (fun _ => by rw [List.length_append]; omega) (fun _ => ?_))
             rintro _ _ m hm
             rw [w64 (by omega)] at hm
             subst hm
             refine lpE_intro (A := B23 fr0 T F bl lg f dn fr ct p l) (⟨gi, gb, gk + 1⟩ : H23) ?_ ⟨rfl, rfl, hlt2⟩ (by show gb.length - (gk + 1) < gb.length - gk; omega)
             simp (maxSteps := 2000000) only [J23, pgH, go_sem, eq_self, and_self, Int.natCast_pos, Int.le_refl, Nat.le_refl, Int.natCast_nonneg, Int.ofNat_lt, Int.ofNat_le, Int.reduceLT, Int.reduceLE, Int.reduceEq, Int.reduceNe, Int.reduceAdd, Int.reduceSub, Int.reduceMul, Int.reduceToNat, Int.reduceNeg, Nat.reduceEqDiff, Nat.reduceLeDiff, Nat.reduceSub, Nat.reduceMul, Nat.reduceLT, Nat.reduceBEq, Nat.reduceAdd]
             rw [← take_elt (t := .int .i64) hlt2, onesL'_snoc, ← List.append_assoc]
             rfl)
          | (have hk : gk = gb.length := by omega
             subst hk
             rw [List.take_length]
             rintro _ _ m hm
             rw [w64 (by omega)] at hm
             subst hm
             refine cntA_next hlt ?_
             simp (maxSteps := 2000000) only [go_sem, eq_self, and_self, Int.natCast_pos, Int.le_refl, Nat.le_refl, Int.natCast_nonneg, Int.ofNat_lt, Int.ofNat_le, Int.reduceLT, Int.reduceLE, Int.reduceEq, Int.reduceNe, Int.reduceAdd, Int.reduceSub, Int.reduceMul, Int.reduceToNat, Int.reduceNeg, Nat.reduceEqDiff, Nat.reduceLeDiff, Nat.reduceSub, Nat.reduceMul, Nat.reduceLT, Nat.reduceBEq, Nat.reduceAdd]
             rw [← take_elt (t := KpT) hlt, lsL_snoc, hbk]
             rfl)
      · have : i = l.length := by omega
        subst this
        rw [List.take_length]
        have w1 := gwho.lo
        have w2 := gwho.le
        have w3 := gwho.hi
        rintro _ _ m hm
        rw [w64 (by omega)] at hm
        subst hm
        exact And.intro rfl (And.intro gwho h)
  · exact h.elim
end Go.V
