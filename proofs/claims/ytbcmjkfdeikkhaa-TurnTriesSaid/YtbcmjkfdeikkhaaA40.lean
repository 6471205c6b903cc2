/- A part of the proof layer, or functions of the given program in it: contracts and their proofs. -/
import Derived.Test.YtbcmjkfdeikkhaaA30
namespace Go.V
open Go.Proofs
set_option maxRecDepth 100000
set_option linter.unusedSimpArgs false
set_option linter.unnecessarySimpa false
set_option linter.unusedVariables false
/-! ### the journal -/
abbrev EvT : Ty := .pair (.int .i64) (.int .i64)
def jH (mv : Bool) (b : List Int) (ev : List EvT.den) (v : Int) : List SB := [.struct [.arr 8 (.int .i64) b, .own 1, .int .u64 v], .row mv 16 EvT ev]
def onJ (hp : List SB) (k : List Int → List EvT.den → Int → Prop) : Prop := ∃ b ev v, hp = jH false b ev v ∧ k b ev v
@[go_sem] theorem onJ_eq {b ev v k} : onJ [.struct [.arr 8 (.int .i64) (no_index b), .own 1, .int .u64 v], .row false 16 (.pair (.int .i64) (.int .i64)) (no_index ev)] k = k b ev v := by
  apply propext; constructor
  · rintro ⟨b', ev', v', h, hk⟩
    unfold jH at h
    cases h
    exact hk
  · exact fun h => ⟨b, ev, v, rfl, h⟩
theorem toNat_lt8 {x : Int} (h : 0 ≤ x ∧ x < 8) : x.toNat < 8 := by omega
@[go_sem] theorem flat_ev {p : Bool} : (p || Ty.flat (.pair (.int .i64) (.int .i64))) = true := by cases p <;> rfl
def okEv (e : EvT.den) : Bool := decide (0 ≤ e.1) && decide (e.1 < 8)
def appE (b : List Int) (ev : List EvT.den) : List Int := ev.foldl (fun b e => b.set e.1.toNat e.2) b
theorem appE_snoc (b : List Int) (ev : List EvT.den) (e : EvT.den) : appE b (ev ++ [e]) = (appE b ev).set e.1.toNat e.2 := by simp [appE]
theorem appE_length (b : List Int) (ev : List EvT.den) : (appE b ev).length = b.length := by
  induction ev generalizing b with
  | nil => rfl
  | cons e r ih => show (appE (b.set e.1.toNat e.2) r).length = _; rw [ih]; simp

def C37 : Contract := fun args hp K => match args, hp with
  | [], [] => K (.ptr 0 0) (jH true (List.replicate 8 0) [] 0)
  | _, _ => False
theorem s37 : Sound Try.prog 37 C37 := by
  refine sound_of_okF ok37 (Γ := []) .nil ?_
  intro args hp K h
  unfold C37 at h
  split at h
  · refine ⟨by simp, [], ?_⟩
    unfold jH at h
    simp (maxSteps := 2000000) only [a37, r37, go_sem, eq_self, and_self, Int.natCast_pos, Int.le_refl, Nat.le_refl, Int.natCast_nonneg, Int.ofNat_lt, Int.ofNat_le, Int.reduceLT, Int.reduceLE, Int.reduceEq, Int.reduceNe, Int.reduceAdd, Int.reduceSub, Int.reduceMul, Int.reduceToNat, Int.reduceNeg, Nat.reduceEqDiff, Nat.reduceLeDiff, Nat.reduceSub, Nat.reduceMul, Nat.reduceLT, Nat.reduceBEq, Nat.reduceAdd]
    exact h
  · exact h.elim
def C26 : Contract := fun args hp K => match args with
  | [.ptr 0 0] => onJ hp fun b ev v => K (.int .u64 v) hp
  | _ => False
theorem s26 : Sound Try.prog 26 C26 := by
  refine sound_of_okF ok26 (Γ := []) .nil ?_
  intro args hp K h
  unfold C26 at h
  split at h
  · obtain ⟨b, ev, v, rfl, h⟩ := h
    refine ⟨by simp, [], ?_⟩
    unfold jH at h ⊢
    simp (maxSteps := 2000000) only [a26, r26, go_sem, eq_self, and_self, Int.natCast_pos, Int.le_refl, Nat.le_refl, Int.natCast_nonneg, Int.ofNat_lt, Int.ofNat_le, Int.reduceLT, Int.reduceLE, Int.reduceEq, Int.reduceNe, Int.reduceAdd, Int.reduceSub, Int.reduceMul, Int.reduceToNat, Int.reduceNeg, Nat.reduceEqDiff, Nat.reduceLeDiff, Nat.reduceSub, Nat.reduceMul, Nat.reduceLT, Nat.reduceBEq, Nat.reduceAdd]
    exact h
  · exact h.elim
/-- Clone of events -/
def C99 : Contract := fun args hp K => match args, hp with
  | [.vw 0 a b 2], [.row false 16 (.pair (.int .i64) (.int .i64)) xs] => K (.own 1) [.row false 16 EvT xs, .row true 16 EvT ((xs.drop a).take (b - a))]
  | _, _ => False
theorem s99 : Sound Try.prog 99 C99 := by
  refine sound_of_okF ok99 (Γ := []) .nil ?_
  intro args hp K h
  unfold C99 at h
  split at h
  · rename_i a b xs
    refine ⟨by simp, [], ?_⟩
    simp (maxSteps := 2000000) only [a99, r99, go_sem, eq_self, and_self, Int.natCast_pos, Int.le_refl, Nat.le_refl, Int.natCast_nonneg, Int.ofNat_lt, Int.ofNat_le, Int.reduceLT, Int.reduceLE, Int.reduceEq, Int.reduceNe, Int.reduceAdd, Int.reduceSub, Int.reduceMul, Int.reduceToNat, Int.reduceNeg, Nat.reduceEqDiff, Nat.reduceLeDiff, Nat.reduceSub, Nat.reduceMul, Nat.reduceLT, Nat.reduceBEq, Nat.reduceAdd]
    intro c hc
    refine sw_intro (fun hb => ?_) (fun _ => ⟨id, fun _ => h⟩)
    rw [hc hb] at h
    exact h
  · exact h.elim
/-- .. is an event's register none? -/
def C76 : Contract := fun args hp K => match args, hp with
  | [.agg [.int .i64 r, .int .i64 v]], [] => K (.bool (!okEv (r, v))) []
  | _, _ => False
theorem s76 : Sound Try.prog 76 C76 := by
  refine sound_of_okF ok76 (Γ := []) .nil ?_
  intro args hp K h
  unfold C76 at h
  split at h
  · rename_i r v
    refine ⟨by simp, [], ?_⟩
    simp (maxSteps := 2000000) only [a76, r76, go_sem, eq_self, and_self, Int.natCast_pos, Int.le_refl, Nat.le_refl, Int.natCast_nonneg, Int.ofNat_lt, Int.ofNat_le, Int.reduceLT, Int.reduceLE, Int.reduceEq, Int.reduceNe, Int.reduceAdd, Int.reduceSub, Int.reduceMul, Int.reduceToNat, Int.reduceNeg, Nat.reduceEqDiff, Nat.reduceLeDiff, Nat.reduceSub, Nat.reduceMul, Nat.reduceLT, Nat.reduceBEq, Nat.reduceAdd]
    unfold okEv at h
    rintro c rfl
    refine sw_intro (fun hb => ?_) (fun hb => ?_) <;> simp only [decide_eq_true_eq, decide_eq_false_iff_not] at hb
    · rw [decide_eq_false (p := 0 ≤ (r, v).1) (by simp only; omega)] at h
      exact h
    · rintro c rfl
      rw [decide_eq_true (p := 0 ≤ (r, v).1) (by simp only; omega)] at h
      by_cases h8 : 8 ≤ r
      · rw [decide_eq_true h8]
        rw [decide_eq_false (p := (r, v).1 < 8) (by simp only; omega)] at h
        exact h
      · rw [decide_eq_false h8]
        rw [decide_eq_true (p := (r, v).1 < 8) (by simp only; omega)] at h
        exact h
  · exact h.elim
def C98 : Contract := fun args hp K => match args, hp with
  | [.sl p 16 (.pair (.int .i64) (.int .i64)) ev, .fn 76 []], [] => ∀ m : Int, ((ev : List EvT.den).all okEv = true → m = -1) → (ev.all okEv = false → 0 ≤ m) → K (.int .i64 m) []
  | _, _ => False
def L98 (p : Bool) (ev : List EvT.den) : LoopAnn := { G := Nat, I := fun i => ⟨[(0, .sl p 16 EvT ev), (1, .fn 76 []), (7, .int .i64 ev.length), (8, .int .i64 i)], []⟩, R := fun _ i => i ≤ ev.length ∧ (ev.take i).all okEv = true, μ := fun i => ev.length - i }
theorem L98_I {p ev} (i : Nat) : (L98 p ev).I i = ⟨[(0, .sl p 16 EvT ev), (1, .fn 76 []), (7, .int .i64 ev.length), (8, .int .i64 i)], []⟩ := rfl
theorem s98 : Sound Try.prog 98 C98 := by
  refine sound_of_okF ok98 (Γ := [(76, C76)]) (.cons s76 (callable_of_okF ok76) .nil) ?_
  intro args hp K h
  unfold C98 at h
  split at h
  · rename_i p ev
    refine ⟨by simp, [(1, L98 p ev)], ?_⟩
    simp (maxSteps := 2000000) only [a98, r98, go_sem, eq_self, and_self, Int.natCast_pos, Int.le_refl, Nat.le_refl, Int.natCast_nonneg, Int.ofNat_lt, Int.ofNat_le, Int.reduceLT, Int.reduceLE, Int.reduceEq, Int.reduceNe, Int.reduceAdd, Int.reduceSub, Int.reduceMul, Int.reduceToNat, Int.reduceNeg, Nat.reduceEqDiff, Nat.reduceLeDiff, Nat.reduceSub, Nat.reduceMul, Nat.reduceLT, Nat.reduceBEq, Nat.reduceAdd]
    rintro _ _ n rfl
    refine loop_intro (A := L98 p ev) (0 : Nat) ?_ ⟨Nat.zero_le _, by simp⟩ ?_
    · simp (maxSteps := 2000000) only [L98_I, go_sem, eq_self, and_self, Int.natCast_pos, Int.le_refl, Nat.le_refl, Int.natCast_nonneg, Int.ofNat_lt, Int.ofNat_le, Int.reduceLT, Int.reduceLE, Int.reduceEq, Int.reduceNe, Int.reduceAdd, Int.reduceSub, Int.reduceMul, Int.reduceToNat, Int.reduceNeg, Nat.reduceEqDiff, Nat.reduceLeDiff, Nat.reduceSub, Nat.reduceMul, Nat.reduceLT, Nat.reduceBEq, Nat.reduceAdd]
      rfl
    · intro (i : Nat) (hi : i ≤ ev.length ∧ (ev.take i).all okEv = true)
      obtain ⟨hi, ha⟩ := hi
      simp (maxSteps := 2000000) only [L98_I, C76, go_sem, eq_self, and_self, Int.natCast_pos, Int.le_refl, Nat.le_refl, Int.natCast_nonneg, Int.ofNat_lt, Int.ofNat_le, Int.reduceLT, Int.reduceLE, Int.reduceEq, Int.reduceNe, Int.reduceAdd, Int.reduceSub, Int.reduceMul, Int.reduceToNat, Int.reduceNeg, Nat.reduceEqDiff, Nat.reduceLeDiff, Nat.reduceSub, Nat.reduceMul, Nat.reduceLT, Nat.reduceBEq, Nat.reduceAdd]
      have := maxLen_val
      rintro c rfl
      refine sw_intro (fun hc => ?_) (fun hc => ?_) <;> simp only [decide_eq_true_eq, decide_eq_false_iff_not] at hc
      · refine nd_intro hc (sw_intro (fun hb => ?_) (fun hb => ?_))
        · rintro _ _ m hm
          rw [w64 (by omega)] at hm
          subst hm
          refine lpE_intro (A := L98 p ev) (i + 1 : Nat) ?_ ⟨hc, ?_⟩ (by show ev.length - (i + 1) < ev.length - i; omega)
          · simp (maxSteps := 2000000) only [L98_I, go_sem, eq_self, and_self, Int.natCast_pos, Int.le_refl, Nat.le_refl, Int.natCast_nonneg, Int.ofNat_lt, Int.ofNat_le, Int.reduceLT, Int.reduceLE, Int.reduceEq, Int.reduceNe, Int.reduceAdd, Int.reduceSub, Int.reduceMul, Int.reduceToNat, Int.reduceNeg, Nat.reduceEqDiff, Nat.reduceLeDiff, Nat.reduceSub, Nat.reduceMul, Nat.reduceLT, Nat.reduceBEq, Nat.reduceAdd]
            rfl
          · rw [← take_elt (t := EvT) hc, List.all_append, ha]
            simpa using hb
        · refine h _ (fun hall => ?_) (fun _ => by omega)
          have := List.all_eq_true.1 hall _ (List.mem_of_getElem? (elt_get (t := EvT) hc))
          rw [show okEv (elt EvT ev i) = okEv ((elt EvT ev i).1, (elt EvT ev i).2) from rfl, hb] at this
          cases this
      · obtain rfl : i = ev.length := by omega
        rw [List.take_length] at ha
        exact h _ (fun _ => rfl) (fun hf => by rw [ha] at hf; cases hf)
  · exact h.elim
def C75 : Contract := fun args hp K => match args, hp with
  | [.sl p 16 (.pair (.int .i64) (.int .i64)) ev, .fn 76 []], [] => K (.bool (!(ev : List EvT.den).all okEv)) []
  | _, _ => False
theorem s75 : Sound Try.prog 75 C75 := by
  refine sound_of_okF ok75 (Γ := [(98, C98)]) (.cons s98 (callable_of_okF ok98) .nil) ?_
  intro args hp K h
  unfold C75 at h
  split at h
  · rename_i p ev
    refine ⟨by simp, [], ?_⟩
    simp (maxSteps := 2000000) only [a75, r75, C98, go_sem, eq_self, and_self, Int.natCast_pos, Int.le_refl, Nat.le_refl, Int.natCast_nonneg, Int.ofNat_lt, Int.ofNat_le, Int.reduceLT, Int.reduceLE, Int.reduceEq, Int.reduceNe, Int.reduceAdd, Int.reduceSub, Int.reduceMul, Int.reduceToNat, Int.reduceNeg, Nat.reduceEqDiff, Nat.reduceLeDiff, Nat.reduceSub, Nat.reduceMul, Nat.reduceLT, Nat.reduceBEq, Nat.reduceAdd]
    rintro m h1 h2 c rfl
    cases ha : ev.all okEv with
    | true =>
      rw [ha] at h
      rw [h1 ha]
      exact h
    | false =>
      rw [ha] at h
      have := h2 ha
      rw [decide_eq_true this]
      exact h
  · exact h.elim

/-- fold -/
def C77 : Contract := fun args hp K => match args with
  | [.ptr 0 0, .int .i64 n] => onJ hp fun b ev v => (0 ≤ n ∧ n ≤ ev.length) ∧ b.length = 8 ∧ ev.all okEv = true ∧ K (.tup []) (jH true (appE b (ev.take n.toNat)) (ev.drop n.toNat) v)
  | _ => False
def L77 (b : List Int) (ev : List EvT.den) (v : Int) (n : Nat) : LoopAnn := { G := Nat, I := fun i => ⟨[(0, .ptr 0 0), (1, .int .i64 n), (11, .vw 1 0 n 2), (12, .int .i64 n), (13, .int .i64 i)], [.struct [.arr 8 (.int .i64) (appE b (ev.take i)), .own 1, .int .u64 v], .row false 16 EvT ev]⟩, R := fun _ i => i ≤ n, μ := fun i => n - i }
theorem L77_I {b ev v n} (i : Nat) : (L77 b ev v n).I i = ⟨[(0, .ptr 0 0), (1, .int .i64 n), (11, .vw 1 0 n 2), (12, .int .i64 n), (13, .int .i64 i)], [.struct [.arr 8 (.int .i64) (appE b (ev.take i)), .own 1, .int .u64 v], .row false 16 EvT ev]⟩ := rfl
theorem s77 : Sound Try.prog 77 C77 := by
  refine sound_of_okF ok77 (Γ := [(99, C99)]) (.cons s99 (callable_of_okF ok99) .nil) ?_
  intro args hp K h
  unfold C77 at h
  split at h
  · rename_i n
    obtain ⟨b, ev, v, rfl, hn, hb, hok, h⟩ := h
    refine ⟨by simp, [(1, L77 b ev v n.toNat)], ?_⟩
    unfold jH at h ⊢
    simp (maxSteps := 2000000) only [a77, r77, C99, go_sem, eq_self, and_self, Int.natCast_pos, Int.le_refl, Nat.le_refl, Int.natCast_nonneg, Int.ofNat_lt, Int.ofNat_le, Int.reduceLT, Int.reduceLE, Int.reduceEq, Int.reduceNe, Int.reduceAdd, Int.reduceSub, Int.reduceMul, Int.reduceToNat, Int.reduceNeg, Nat.reduceEqDiff, Nat.reduceLeDiff, Nat.reduceSub, Nat.reduceMul, Nat.reduceLT, Nat.reduceBEq, Nat.reduceAdd]
    refine nd_intro hn ?_
    obtain ⟨n, rfl⟩ := Int.eq_ofNat_of_zero_le hn.1
    simp only [Int.toNat_natCast, Nat.sub_zero] at h ⊢
    have hl : (List.take n ev).length = n := by rw [List.length_take]; omega
    rw [hl]
    rintro _ _ m rfl
    refine loop_intro (A := L77 b ev v n) (0 : Nat) ?_ (Nat.zero_le _) ?_
    · simp (maxSteps := 2000000) only [L77_I, go_sem, eq_self, and_self, Int.natCast_pos, Int.le_refl, Nat.le_refl, Int.natCast_nonneg, Int.ofNat_lt, Int.ofNat_le, Int.reduceLT, Int.reduceLE, Int.reduceEq, Int.reduceNe, Int.reduceAdd, Int.reduceSub, Int.reduceMul, Int.reduceToNat, Int.reduceNeg, Nat.reduceEqDiff, Nat.reduceLeDiff, Nat.reduceSub, Nat.reduceMul, Nat.reduceLT, Nat.reduceBEq, Nat.reduceAdd]
      rfl
    · intro (i : Nat) (hi : i ≤ n)
      simp (maxSteps := 2000000) only [L77_I, C99, go_sem, eq_self, and_self, Int.natCast_pos, Int.le_refl, Nat.le_refl, Int.natCast_nonneg, Int.ofNat_lt, Int.ofNat_le, Int.reduceLT, Int.reduceLE, Int.reduceEq, Int.reduceNe, Int.reduceAdd, Int.reduceSub, Int.reduceMul, Int.reduceToNat, Int.reduceNeg, Nat.reduceEqDiff, Nat.reduceLeDiff, Nat.reduceSub, Nat.reduceMul, Nat.reduceLT, Nat.reduceBEq, Nat.reduceAdd]
      have := maxLen_val
      rintro c rfl
      refine sw_intro (fun hc => ?_) (fun hc => ?_) <;> simp only [decide_eq_true_eq, decide_eq_false_iff_not] at hc
      · have hlt : i < ev.length := by omega
        have hx : okEv (elt EvT ev i) = true := List.all_eq_true.1 hok _ (List.mem_of_getElem? (elt_get (t := EvT) hlt))
        unfold okEv at hx
        simp only [Bool.and_eq_true, decide_eq_true_eq] at hx
        refine nd_intro ⟨by omega, by omega⟩ (nd_intro hlt (nd_intro hx (nd_intro (toNat_lt8 hx) ?_)))
        rintro _ _ m hm
        rw [w64 (by omega)] at hm
        subst hm
        refine lpE_intro (A := L77 b ev v n) (i + 1 : Nat) ?_ hc (by show n - (i + 1) < n - i; omega)
        simp (maxSteps := 2000000) only [L77_I, go_sem, eq_self, and_self, Int.natCast_pos, Int.le_refl, Nat.le_refl, Int.natCast_nonneg, Int.ofNat_lt, Int.ofNat_le, Int.reduceLT, Int.reduceLE, Int.reduceEq, Int.reduceNe, Int.reduceAdd, Int.reduceSub, Int.reduceMul, Int.reduceToNat, Int.reduceNeg, Nat.reduceEqDiff, Nat.reduceLeDiff, Nat.reduceSub, Nat.reduceMul, Nat.reduceLT, Nat.reduceBEq, Nat.reduceAdd]
        rw [← take_elt (t := EvT) hlt, appE_snoc]
        rfl
      · obtain rfl : i = n := by omega
        refine nd_intro (by omega) ?_
        rw [List.take_of_length_le (l := ev.drop i) (by rw [List.length_drop]; exact Nat.le_refl _)]
        exact h
  · exact h.elim
/-- The journal behind more events. -/
def jAdd (b : List Int) (ev l : List EvT.den) : List Int × List EvT.den := (appE b ((ev ++ l).take ((ev ++ l).length - 16)), (ev ++ l).drop ((ev ++ l).length - 16))
/-- Add -/
def C33 : Contract := fun args hp K => match args with
  | [.ptr 0 0, .sl p 16 (.pair (.int .i64) (.int .i64)) l] => onJ hp fun b ev v => b.length = 8 ∧ ev.all okEv = true ∧ ev.length ≤ 16 ∧ l.length ≤ 1000000 ∧
      ((l : List EvT.den).all okEv = false → K (.int .i64 3) hp) ∧
      ((l : List EvT.den).all okEv = true → K (.int .i64 0) (jH true (jAdd b ev l).1 (jAdd b ev l).2 (IntKind.u64.wrap (v + (l.length : Nat)))))
  | _ => False
theorem s33 : Sound Try.prog 33 C33 := by
  refine sound_of_okF ok33 (Γ := [(75, C75), (77, C77)]) (.cons s75 (callable_of_okF ok75) (.cons s77 (callable_of_okF ok77) .nil)) ?_
  intro args hp K h
  unfold C33 at h
  split at h
  · rename_i p l
    obtain ⟨b, ev, v, rfl, hb, hok, hl, hl2, h1, h2⟩ := h
    refine ⟨by simp, [], ?_⟩
    unfold jH at h1 h2 ⊢
    simp (maxSteps := 2000000) only [a33, r33, C75, C77, jH, go_sem, eq_self, and_self, Int.natCast_pos, Int.le_refl, Nat.le_refl, Int.natCast_nonneg, Int.ofNat_lt, Int.ofNat_le, Int.reduceLT, Int.reduceLE, Int.reduceEq, Int.reduceNe, Int.reduceAdd, Int.reduceSub, Int.reduceMul, Int.reduceToNat, Int.reduceNeg, Nat.reduceEqDiff, Nat.reduceLeDiff, Nat.reduceSub, Nat.reduceMul, Nat.reduceLT, Nat.reduceBEq, Nat.reduceAdd]
    have := maxLen_val
    refine sw_intro (fun ha => ⟨fun _ _ => by omega, ?_⟩) (fun ha => h1 ha)
    rintro _ _ _ m rfl _ m1 hm1 _ _ m2 hm2 _ _ m3 rfl _ _ m4 hm4 m5 hm5
    rw [wu64 (by omega)] at hm1
    subst hm1
    have hlen : (ev ++ l).length = ev.length + l.length := List.length_append
    rw [hlen] at hm4
    rw [w64 (by omega)] at hm4
    have hm5' : m5 = ((ev.length + l.length - 16 : Nat) : Int) := by
      rw [hm5, hm4]; split <;> omega
    subst hm5'
    refine ⟨⟨by omega, by rw [hlen]; omega⟩, hb, by rw [List.all_append, hok, ha]; rfl, ?_⟩
    have h2 := h2 ha
    unfold jAdd at h2
    rw [hlen] at h2
    rw [hm2, Int.toNat_natCast]
    exact h2
  · exact h.elim
end Go.V
