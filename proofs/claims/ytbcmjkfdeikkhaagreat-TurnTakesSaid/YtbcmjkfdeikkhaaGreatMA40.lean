/- A part of the proof layer, or functions of the given program in it: contracts and their proofs. -/
import Derived.Test.YtbcmjkfdeikkhaaGreatMA28
namespace Go.V
open Go.Proofs
set_option maxRecDepth 100000
set_option linter.unusedSimpArgs false
set_option linter.unnecessarySimpa false
set_option linter.unusedVariables false
/-! ### the journal -/
abbrev EvT : Ty := .pair (.int .i64) (.int .i64)
def jH (mv : Bool) (b : List Int) (ev : List EvT.den) (v : Int) : List SB := [.struct [.arr 8 (.int .i64) b, .own 1, .int .u64 v], .row mv 16 EvT ev]
def onJ (hp : List SB) (k : List Int → List EvT.den → Int → Prop) : Prop := ∃ b ev v, hp = jH false b ev v ∧ k b ev v
@[go_sem] theorem onJ_eq {b ev v k} : onJ [.struct [.arr 8 (.int .i64) (no_index b), .own 1, .int .u64 v], .row false 16 (.pair (.int .i64) (.int .i64)) (no_index ev)] k = k b ev v := by
 apply propext; constructor
 ·rintro ⟨b', ev', v', h, hk⟩
  unfold jH at h
  cases h
  exact hk
 ·exact fun h => ⟨b, ev, v, rfl, h⟩
theorem lt8_of {x : Int} (h : 7 < x) : ¬ x < 8 := by omega
theorem lt8_of2 {x : Int} (h : ¬ 7 < x) : x < 8 := by omega
theorem toNat_lt8 {x : Int} (h : 0 ≤ x ∧ x < 8) : x.toNat < 8 := by omega
@[go_sem] theorem flat_ev {p : Bool} : (p || Ty.flat (.pair (.int .i64) (.int .i64))) = true := by cases p <;> rfl
def okEv (e : EvT.den) : Bool := decide (0 ≤ e.1) && decide (e.1 < 8)
def appE (b : List Int) (ev : List EvT.den) : List Int := ev.foldl (fun b e => b.set e.1.toNat e.2) b
theorem appE_snoc (b : List Int) (ev : List EvT.den) (e : EvT.den) : appE b (ev ++ [e]) = (appE b ev).set e.1.toNat e.2 := by simp [appE]
theorem appE_length (b : List Int) (ev : List EvT.den) : (appE b ev).length = b.length := by
 induction ev generalizing b with
 | nil => rfl
 | cons e r ih => show (appE (b.set e.1.toNat e.2) r).length = _; rw [ih]; simp
def C72 : Contract := fun args hp K => match args, hp with
 | [], [] => K (.ptr 0 0) (jH true (List.replicate 8 0) [] 0)
 | _, _ => False
theorem s72 : Sound Tryz.prog 72 C72 := by
 refine sound_of_okF ok72 .nil ?_
 intro args hp K h
 unfold C72 at h
 split at h
 ·refine ⟨by simp, [], ?_⟩
  unfold jH at h
  simp (maxSteps:=9^9) only [a72, r72, go_sem, Nat.reduceLeDiff, Nat.reduceSub, Nat.reduceMul, Nat.reduceBEq, Nat.reduceAdd]
  exact h
 ·exact h.elim
def C52 : Contract := fun args hp K => match args with
 | [.ptr 0 0] => onJ hp fun b ev v => K (.int .u64 v) hp
 | _ => False
theorem s52 : Sound Tryz.prog 52 C52 := by
 refine sound_of_okF ok52 .nil ?_
 intro args hp K h
 unfold C52 at h
 split at h
 ·obtain ⟨b, ev, v, rfl, h⟩ := h
  refine ⟨by simp, [], ?_⟩
  unfold jH at h ⊢
  simp (maxSteps:=9^9) only [a52, r52, go_sem, Nat.reduceLeDiff, Nat.reduceSub, Nat.reduceMul, Nat.reduceBEq, Nat.reduceAdd]
  exact h
 ·exact h.elim
def C114 : Contract := fun args hp K => match args, hp with
 | [.vw 0 a b 2], [.row false 16 (.pair (.int .i64) (.int .i64)) xs] => K (.own 1) [.row false 16 EvT xs, .row true 16 EvT ((xs.drop a).take (b - a))]
 | _, _ => False
theorem s114 : Sound Tryz.prog 114 C114 := by
 refine sound_of_okF ok114 .nil ?_
 intro args hp K h
 unfold C114 at h
 split at h
 ·rename_i a b xs
  refine ⟨by simp, [], ?_⟩
  simp (maxSteps:=9^9) only [a114, r114, go_sem, Nat.reduceLeDiff, Nat.reduceMul, Nat.reduceBEq, Nat.reduceAdd]
  intro c hc
  refine sw_intro (fun hb => ?_) (fun _ => ⟨id, fun _ => h⟩)
  rw [hc hb] at h
  exact h
 ·exact h.elim
def C86 : Contract := fun args hp K => match args, hp with
 | [.agg [.int .i64 r, .int .i64 v]], [] => K (.bool (!okEv (r, v))) []
 | _, _ => False
theorem s86 : Sound Tryz.prog 86 C86 := by
 refine sound_of_okF ok86 .nil ?_
 intro args hp K h
 unfold C86 at h
 split at h
 ·rename_i r v
  refine ⟨by simp, [], ?_⟩
  simp (maxSteps:=9^9) only [a86, r86, go_sem, Nat.reduceBEq]
  unfold okEv at h
  rintro c rfl
  refine sw_intro (fun hb => ?_) (fun hb => ?_) <;> simp only [decide_eq_true_eq, decide_eq_false_iff_not] at hb
  ·rw [decide_eq_false (p := 0 ≤ (r, v).1) (by simp only; omega)] at h
   exact h
  ·rintro c rfl
   rw [decide_eq_true (p := 0 ≤ (r, v).1) (by simp only; omega)] at h
   by_cases h8 : 8 ≤ r
   ·rw [decide_eq_true h8]
    rw [decide_eq_false (p := (r, v).1 < 8) (by simp only; omega)] at h
    exact h
   ·rw [decide_eq_false h8]
    rw [decide_eq_true (p := (r, v).1 < 8) (by simp only; omega)] at h
    exact h
 ·exact h.elim
def C113 : Contract := fun args hp K => match args, hp with
 | [.sl p 16 (.pair (.int .i64) (.int .i64)) ev, .fn 86 []], [] => ∀ m : Int, ((ev : List EvT.den).all okEv = true → m = -1) → (ev.all okEv = false → 0 ≤ m) → K (.int .i64 m) []
 | _, _ => False
def L113 (p : Bool) (ev : List EvT.den) : LoopAnn := { G := Nat, I := fun i => ⟨[(0, .sl p 16 EvT ev), (1, .fn 86 []), (7, .int .i64 ev.length), (8, .int .i64 i)], []⟩, R := fun _ i => i ≤ ev.length ∧ (ev.take i).all okEv = true, μ := fun i => ev.length - i }
theorem L113_I {p ev} (i : Nat) : (L113 p ev).I i = ⟨[(0, .sl p 16 EvT ev), (1, .fn 86 []), (7, .int .i64 ev.length), (8, .int .i64 i)], []⟩ := rfl
theorem s113 : Sound Tryz.prog 113 C113 := by
 refine sound_of_okF ok113 (.cons s86 (callable_of_okF ok86) .nil) ?_
 intro args hp K h
 unfold C113 at h
 split at h
 ·rename_i p ev
  refine ⟨by simp, [(1, L113 p ev)], ?_⟩
  simp (maxSteps:=9^9) only [a113, r113, go_sem, Int.reduceNeg, Nat.reduceBEq, Nat.reduceAdd]
  rintro _ _ n rfl
  refine loop_intro (A := L113 p ev) (0 : Nat) ?_ ⟨Nat.zero_le _, by simp⟩ ?_
  ·simp (maxSteps:=9^9) only [L113_I, go_sem, Nat.reduceBEq]
   rfl
  ·intro (i : Nat) (hi : i ≤ ev.length ∧ (ev.take i).all okEv = true)
   obtain ⟨hi, ha⟩ := hi
   simp (maxSteps:=9^9) only [L113_I, C86, go_sem, Int.reduceNeg, Nat.reduceLeDiff, Nat.reduceSub, Nat.reduceBEq, Nat.reduceAdd]
   have := maxLen_val
   rintro c rfl
   refine sw_intro (fun hc => ?_) (fun hc => ?_) <;> simp only [decide_eq_true_eq, decide_eq_false_iff_not] at hc
   ·refine nd_intro hc (sw_intro (fun hb => ?_) (fun hb => ?_))
    ·rintro _ _ m hm
     rw [w64 (by omega)] at hm
     subst hm
     refine lpE_intro (A := L113 p ev) (i + 1 : Nat) ?_ ⟨hc, ?_⟩ (by show ev.length - (i + 1) < ev.length - i; omega)
     ·simp (maxSteps:=9^9) only [L113_I, go_sem, Nat.reduceBEq]
      rfl
     ·rw [← take_elt (t := EvT) hc, List.all_append, ha]
      simpa using hb
    ·refine h _ (fun hall => ?_) (fun _ => by omega)
     have := List.all_eq_true.1 hall _ (List.mem_of_getElem? (elt_get (t := EvT) hc))
     rw [show okEv (elt EvT ev i) = okEv ((elt EvT ev i).1, (elt EvT ev i).2) from rfl, hb] at this
     cases this
   ·obtain rfl : i = ev.length := by omega
    rw [List.take_length] at ha
    exact h _ (fun _ => rfl) (fun hf => by rw [ha] at hf; cases hf)
 ·exact h.elim
def C85 : Contract := fun args hp K => match args, hp with
 | [.sl p 16 (.pair (.int .i64) (.int .i64)) ev, .fn 86 []], [] => K (.bool (!(ev : List EvT.den).all okEv)) []
 | _, _ => False
theorem s85 : Sound Tryz.prog 85 C85 := by
 refine sound_of_okF ok85 (.cons s113 (callable_of_okF ok113) .nil) ?_
 intro args hp K h
 unfold C85 at h
 split at h
 ·rename_i p ev
  refine ⟨by simp, [], ?_⟩
  simp (maxSteps:=9^9) only [a85, r85, C113, go_sem, Int.reduceNeg, Nat.reduceBEq, Nat.reduceAdd]
  rintro m h1 h2 c rfl
  cases ha : ev.all okEv with
  | true =>
   rw [ha] at h
   rw [h1 ha]
   exact h
  | false =>
   rw [ha] at h
   have := h2 ha
   rw [decide_eq_true this]
   exact h
 ·exact h.elim
def C87 : Contract := fun args hp K => match args with
 | [.ptr 0 0, .int .i64 n] => onJ hp fun b ev v => (0 ≤ n ∧ n ≤ ev.length) ∧ b.length = 8 ∧ ev.all okEv = true ∧ K (.tup []) (jH true (appE b (ev.take n.toNat)) (ev.drop n.toNat) v)
 | _ => False
def L87 (b : List Int) (ev : List EvT.den) (v : Int) (n : Nat) : LoopAnn := { G := Nat, I := fun i => ⟨[(0, .ptr 0 0), (1, .int .i64 n), (11, .vw 1 0 n 2), (12, .int .i64 n), (13, .int .i64 i)], [.struct [.arr 8 (.int .i64) (appE b (ev.take i)), .own 1, .int .u64 v], .row false 16 EvT ev]⟩, R := fun _ i => i ≤ n, μ := fun i => n - i }
theorem L87_I {b ev v n} (i : Nat) : (L87 b ev v n).I i = ⟨[(0, .ptr 0 0), (1, .int .i64 n), (11, .vw 1 0 n 2), (12, .int .i64 n), (13, .int .i64 i)], [.struct [.arr 8 (.int .i64) (appE b (ev.take i)), .own 1, .int .u64 v], .row false 16 EvT ev]⟩ := rfl
theorem s87 : Sound Tryz.prog 87 C87 := by
 refine sound_of_okF ok87 (.cons s114 (callable_of_okF ok114) .nil) ?_
 intro args hp K h
 unfold C87 at h
 split at h
 ·rename_i n
  obtain ⟨b, ev, v, rfl, hn, hb, hok, h⟩ := h
  refine ⟨by simp, [(1, L87 b ev v n.toNat)], ?_⟩
  unfold jH at h ⊢
  simp (maxSteps:=9^9) only [a87, r87, go_sem, Int.reduceToNat, Nat.reduceSub, Nat.reduceMul, Nat.reduceBEq, Nat.reduceAdd]
  refine nd_intro hn ?_
  obtain ⟨n, rfl⟩ := Int.eq_ofNat_of_zero_le hn.1
  simp only [Int.toNat_natCast, Nat.sub_zero] at h ⊢
  have hl : (List.take n ev).length = n := by rw [List.length_take]; omega
  rw [hl]
  rintro _ _ m rfl
  refine loop_intro (A := L87 b ev v n) (0 : Nat) ?_ (Nat.zero_le _) ?_
  ·simp (maxSteps:=9^9) only [L87_I, go_sem, Nat.reduceBEq]
   rfl
  ·intro (i : Nat) (hi : i ≤ n)
   simp (maxSteps:=9^9) only [L87_I, C114, go_sem, Nat.reduceLeDiff, Nat.reduceSub, Nat.reduceMul, Nat.reduceLT, Nat.reduceBEq, Nat.reduceAdd]
   have := maxLen_val
   rintro c rfl
   refine sw_intro (fun hc => ?_) (fun hc => ?_) <;> simp only [decide_eq_true_eq, decide_eq_false_iff_not] at hc
   ·have hlt : i < ev.length := by omega
    have hx : okEv (elt EvT ev i) = true := List.all_eq_true.1 hok _ (List.mem_of_getElem? (elt_get (t := EvT) hlt))
    unfold okEv at hx
    simp only [Bool.and_eq_true, decide_eq_true_eq] at hx
    refine nd_intro ⟨by omega, by omega⟩ (nd_intro hlt (nd_intro hx (nd_intro (toNat_lt8 hx) ?_)))
    rintro _ _ m hm
    rw [w64 (by omega)] at hm
    subst hm
    refine lpE_intro (A := L87 b ev v n) (i + 1 : Nat) ?_ hc (by show n - (i + 1) < n - i; omega)
    simp (maxSteps:=9^9) only [L87_I, go_sem, Nat.reduceBEq]
    rw [← take_elt (t := EvT) hlt, appE_snoc]
    rfl
   ·obtain rfl : i = n := by omega
    refine nd_intro (by omega) ?_
    rw [List.take_of_length_le (l := ev.drop i) (by rw [List.length_drop]; exact Nat.le_refl _)]
    exact h
 ·exact h.elim
def jAdd (b : List Int) (ev l : List EvT.den) : List Int × List EvT.den := (appE b ((ev ++ l).take ((ev ++ l).length - 16)), (ev ++ l).drop ((ev ++ l).length - 16))
def C26 : Contract := fun args hp K => match args with
 | [.ptr 0 0, .sl p 16 (.pair (.int .i64) (.int .i64)) l] => onJ hp fun b ev v => b.length = 8 ∧ ev.all okEv = true ∧ ev.length ≤ 16 ∧ l.length ≤ 1000000 ∧
   ((l : List EvT.den).all okEv = false → K (.int .i64 3) hp) ∧
   ((l : List EvT.den).all okEv = true → K (.int .i64 0) (jH true (jAdd b ev l).1 (jAdd b ev l).2 (IntKind.u64.wrap (v + (l.length : Nat)))))
 | _ => False
theorem s26 : Sound Tryz.prog 26 C26 := by
 refine sound_of_okF ok26 (.cons s85 (callable_of_okF ok85) (.cons s87 (callable_of_okF ok87) .nil)) ?_
 intro args hp K h
 unfold C26 at h
 split at h
 ·rename_i p l
  obtain ⟨b, ev, v, rfl, hb, hok, hl, hl2, h1, h2⟩ := h
  refine ⟨by simp, [], ?_⟩
  unfold jH at h1 h2 ⊢
  simp (maxSteps:=9^9) only [a26, r26, C85, C87, jH, go_sem, Nat.reduceLeDiff, Nat.reduceSub, Nat.reduceMul, Nat.reduceLT, Nat.reduceBEq, Nat.reduceAdd]
  have := maxLen_val
  refine sw_intro (fun ha => ⟨fun _ _ => by omega, ?_⟩) (fun ha => h1 ha)
  rintro _ _ _ m rfl _ m1 hm1 _ _ m2 hm2 _ _ m3 rfl _ _ m4 hm4 m5 hm5
  rw [wu64 (by omega)] at hm1
  subst hm1
  have hlen : (ev ++ l).length = ev.length + l.length := List.length_append
  rw [hlen] at hm4
  rw [w64 (by omega)] at hm4
  have hm5' : m5 = ((ev.length + l.length - 16 : Nat) : Int) := by
   rw [hm5, hm4]; split <;> omega
  subst hm5'
  refine ⟨⟨by omega, by rw [hlen]; omega⟩, hb, by rw [List.all_append, hok, ha]; rfl, ?_⟩
  have h2 := h2 ha
  unfold jAdd at h2
  rw [hlen] at h2
  rw [hm2, Int.toNat_natCast]
  exact h2
 ·exact h.elim
def C88 : Contract := fun args hp K => match args with
 | [.ptr 0 0] => onJ hp fun b ev v => b.length = 8 ∧ ∃ x r, ev = x :: r ∧ okEv x = true ∧ K (.tup []) (jH true (b.set x.1.toNat x.2) r v)
 | _ => False
theorem s88 : Sound Tryz.prog 88 C88 := by
 refine sound_of_okF ok88 .nil ?_
 intro args hp K h
 unfold C88 at h
 split at h
 ·obtain ⟨b, ev, v, rfl, hb, x, r, rfl, hx, h⟩ := h
  refine ⟨by simp, [], ?_⟩
  unfold jH at h ⊢
  simp (maxSteps:=9^9) only [a88, r88, go_sem, Int.reduceLE, Int.reduceToNat, Nat.reduceLeDiff, Nat.reduceSub, Nat.reduceMul, Nat.reduceBEq, Nat.reduceAdd]
  have e0 : elt EvT (x :: r) 0 = x := rfl
  have hx2 := hx
  unfold okEv at hx2
  simp only [Bool.and_eq_true, decide_eq_true_eq] at hx2
  rw [e0]
  refine nd_intro (by omega) (nd_intro hx2 (nd_intro (toNat_lt8 hx2) (nd_intro (by omega) ⟨id, fun _ => ?_⟩)))
  rw [List.take_of_length_le (by omega)]
  exact h
 ·exact h.elim
theorem jAdd_step (b : List Int) (ev l : List EvT.den) (x : EvT.den) (h : ev.length ≤ 16) : 
  (((jAdd b ev l).2 ++ [x]).length ≤ 16 → jAdd b ev (l ++ [x]) = ((jAdd b ev l).1, (jAdd b ev l).2 ++ [x])) ∧
  (16 < ((jAdd b ev l).2 ++ [x]).length → ∃ y r, (jAdd b ev l).2 ++ [x] = y :: r ∧ jAdd b ev (l ++ [x]) = ((jAdd b ev l).1.set y.1.toNat y.2, r)) := by
 unfold jAdd
 simp only [← List.append_assoc]
 generalize hE : ev ++ l = E
 have hd : (E.drop (E.length - 16) ++ [x]) = (E ++ [x]).drop (E.length - 16) := by
  rw [List.drop_append_of_le_length (by omega)]
 have ht : E.take (E.length - 16) = (E ++ [x]).take (E.length - 16) := by
  rw [List.take_append_of_le_length (by omega)]
 have hl : (E ++ [x]).length = E.length + 1 := by simp
 rw [hd, ht]
 generalize hF : E ++ [x] = F at *
 refine ⟨fun h => ?_, fun h => ?_⟩
 ·rw [List.length_drop] at h
  have e : F.length - 16 = E.length - 16 := by omega
  rw [e]
 ·rw [List.length_drop] at h
  have e : F.length - 16 = E.length - 16 + 1 := by omega
  have hlt : E.length - 16 < F.length := by omega
  refine ⟨F[E.length - 16], F.drop (E.length - 16 + 1), List.drop_eq_getElem_cons hlt, ?_⟩
  rw [e, ← List.take_append_getElem hlt, appE_snoc]
theorem jAdd_len (b : List Int) (ev l : List EvT.den) : (jAdd b ev l).2.length ≤ 16 ∧ (jAdd b ev l).1.length = b.length := by
 unfold jAdd
 refine ⟨?_, appE_length _ _⟩
 simp only [List.length_drop]; omega
theorem jAdd_ok {b : List Int} {ev l : List EvT.den} (h1 : ev.all okEv = true) (h2 : l.all okEv = true) : (jAdd b ev l).2.all okEv = true := by
 unfold jAdd
 rw [List.all_eq_true] at *
 intro x hx
 rcases List.mem_append.1 (List.mem_of_mem_drop hx) with h | h
 ·exact h1 x h
 ·exact h2 x h
theorem jAdd_nil (b : List Int) (ev : List EvT.den) (h : ev.length ≤ 16) : jAdd b ev [] = (b, ev) := by
 unfold jAdd
 rw [List.append_nil, show ev.length - 16 = 0 by omega]
 rfl
def C27 : Contract := fun args hp K => match args with
 | [.ptr 0 0, .sl p 16 (.pair (.int .i64) (.int .i64)) l] => onJ hp fun b ev v => b.length = 8 ∧ ev.all okEv = true ∧ ev.length ≤ 16 ∧ (0 ≤ v ∧ v + l.length ≤ 18446744073709551615) ∧
   ((l : List EvT.den).all okEv = false → K (.int .i64 3) hp) ∧
   ((l : List EvT.den).all okEv = true → K (.int .i64 0) (jH true (jAdd b ev l).1 (jAdd b ev l).2 (v + (l.length : Nat))))
 | _ => False
def L27 (p : Bool) (l : List EvT.den) (b : List Int) (ev : List EvT.den) (v : Int) : LoopAnn := { G := Nat, I := fun i => ⟨[(0, .ptr 0 0), (1, .sl p 16 EvT l), (8, .int .i64 l.length), (9, .int .i64 i)], jH false b ev v⟩, R := fun _ i => i ≤ l.length ∧ (l.take i).all okEv = true, μ := fun i => l.length - i }
theorem L27_I {p l b ev v} (i : Nat) : (L27 p l b ev v).I i = ⟨[(0, .ptr 0 0), (1, .sl p 16 EvT l), (8, .int .i64 l.length), (9, .int .i64 i)], jH false b ev v⟩ := rfl
def M27 (p : Bool) (l : List EvT.den) (b : List Int) (ev : List EvT.den) (v : Int) : LoopAnn := { G := Nat, I := fun i => ⟨[(0, .ptr 0 0), (1, .sl p 16 EvT l), (28, .int .i64 l.length), (29, .int .i64 i)], jH true (jAdd b ev (l.take i)).1 (jAdd b ev (l.take i)).2 (v + (i : Nat))⟩, R := fun _ i => i ≤ l.length, μ := fun i => l.length - i }
theorem M27_I {p l b ev v} (i : Nat) : (M27 p l b ev v).I i = ⟨[(0, .ptr 0 0), (1, .sl p 16 EvT l), (28, .int .i64 l.length), (29, .int .i64 i)], jH true (jAdd b ev (l.take i)).1 (jAdd b ev (l.take i)).2 (v + (i : Nat))⟩ := rfl
theorem s27 : Sound Tryz.prog 27 C27 := by
  refine sound_of_okF ok27 (.cons s88 (callable_of_okF ok88) .nil) ?_
  intro args hp K h
  unfold C27 at h
  split at h
  · rename_i p l
    obtain ⟨b, ev, v, rfl, hb, hok, hl, hv, h1, h2⟩ := h
    refine ⟨by simp, [(1, L27 p l b ev v), (2, M27 p l b ev v)], ?_⟩
    unfold jH at h1 h2 ⊢
    simp (maxSteps:=9^9) only [a27, r27, go_sem, Nat.reduceSub, Nat.reduceMul, Nat.reduceBEq, Nat.reduceAdd]
    have := maxLen_val
    rintro _ _ m rfl
    refine loop_intro (A := L27 p l b ev v) (0 : Nat) ?_ ⟨Nat.zero_le _, by simp⟩ ?_
    · simp (maxSteps:=9^9) only [L27_I, jH, go_sem, Nat.reduceBEq]
      rfl
    · intro (i : Nat) (hi : i ≤ l.length ∧ (l.take i).all okEv = true)
      obtain ⟨hi, ha⟩ := hi
      simp (maxSteps:=9^9) only [L27_I, jH, go_sem, Nat.reduceSub, Nat.reduceMul, Nat.reduceBEq, Nat.reduceAdd]
      rintro c rfl
      refine sw_intro (fun hc => ?_) (fun hc => ?_) <;> simp only [decide_eq_true_eq, decide_eq_false_iff_not] at hc
      · have hx : (elt EvT l i) ∈ l := List.mem_of_getElem? (elt_get (t := EvT) hc)
        have bad : okEv (elt EvT l i) = false → l.all okEv = false := fun hb => by
          cases ht : l.all okEv with
          | false => rfl
          | true => rw [List.all_eq_true.1 ht _ hx] at hb; cases hb
        refine nd_intro hc ?_
        rintro c rfl
        refine sw_intro (fun h0 => ?_) (fun h0 => ?_) <;> simp only [decide_eq_true_eq, decide_eq_false_iff_not] at h0
        · exact h1 (bad (by unfold okEv; rw [decide_eq_false (p := 0 ≤ (elt EvT l i).1) (fun hh => Int.not_lt.2 hh h0)]; rfl))
        · refine nd_intro hc ?_
          rintro c rfl
          refine sw_intro (fun h7 => ?_) (fun h7 => ?_) <;> simp only [decide_eq_true_eq, decide_eq_false_iff_not] at h7
          · exact h1 (bad (by unfold okEv; rw [decide_eq_false (p := (elt EvT l i).1 < 8) (lt8_of h7)]; simp))
          · rintro _ _ m hm
            rw [w64 (by omega)] at hm
            subst hm
            refine lpE_intro (A := L27 p l b ev v) (i + 1 : Nat) ?_ ⟨hc, ?_⟩ (by show l.length - (i + 1) < l.length - i; omega)
            · simp (maxSteps:=9^9) only [L27_I, jH, go_sem, Nat.reduceBEq]
              rfl
            · rw [← take_elt (t := EvT) hc, List.all_append, ha]
              have : okEv (elt EvT l i) = true := by
                unfold okEv
                rw [decide_eq_true (p := 0 ≤ (elt EvT l i).1) (Int.not_lt.1 h0), decide_eq_true (p := (elt EvT l i).1 < 8) (lt8_of2 h7)]
                rfl
              simp [this]
      · obtain rfl : i = l.length := by omega
        rw [List.take_length] at ha
        have h2 := h2 ha
        rintro _ _ m rfl
        refine loop_intro (A := M27 p l b ev v) (0 : Nat) ?_ (Nat.zero_le _) ?_
        · simp (maxSteps:=9^9) only [M27_I, jH, go_sem, Nat.reduceBEq]
          rw [List.take_zero, jAdd_nil b ev hl]
          rw [show v + ((0 : Nat) : Int) = v by omega]
          rfl
        · intro (i : Nat) (hi : i ≤ l.length)
          simp (maxSteps:=9^9) only [M27_I, jH, C88, go_sem, Nat.reduceLeDiff, Nat.reduceSub, Nat.reduceMul, Nat.reduceLT, Nat.reduceBEq, Nat.reduceAdd]
          rintro c rfl
          refine sw_intro (fun hc => ?_) (fun hc => ?_) <;> simp only [decide_eq_true_eq, decide_eq_false_iff_not] at hc
          · have jl := jAdd_len b ev (l.take i)
            have st := jAdd_step b ev (l.take i) (elt EvT l i) hl
            rw [take_elt (t := EvT) hc] at st
            have hxs : ((elt EvT l i).1, (elt EvT l i).2) = elt EvT l i := rfl
            rw [hxs]
            generalize elt EvT l i = x at *
            have hok2 := jAdd_ok (b := b) (l := l.take (i + 1)) hok (by rw [List.all_eq_true] at *; exact fun y hy => ha y (List.mem_of_mem_take hy))
            have hokx := jAdd_ok (b := b) (l := l.take i) hok (by rw [List.all_eq_true] at *; exact fun y hy => ha y (List.mem_of_mem_take hy))
            generalize hJ : jAdd b ev (l.take i) = J at *
            have hJ1 : (J.2 ++ [x]).length = J.2.length + 1 := by simp
            have hjl := jl.1
            refine nd_intro hc ⟨fun _ => by omega, ?_⟩
            rintro _ _ _ m hm _ _ m1 rfl c rfl
            rw [wu64 (by omega)] at hm
            subst hm
            have ev2 : v + (i : Int) + 1 = v + ((i + 1 : Nat) : Int) := by omega
            refine sw_intro (fun hg => ?_) (fun hg => ?_) <;> simp only [decide_eq_true_eq, decide_eq_false_iff_not] at hg
            · obtain ⟨y, r, hy, hj⟩ := st.2 (by omega)
              refine ⟨by rw [jl.2, hb], y, r, hy, ?_, ?_⟩
              · have hm : y ∈ J.2 ++ [x] := by rw [hy]; exact List.mem_cons_self
                have hne : J.2 ≠ [] := fun h9 => by have h8 : J.2.length = 0 := by rw [h9]; rfl
                                                    omega
                obtain ⟨z, r2, hz⟩ := List.exists_cons_of_ne_nil hne
                rw [hz, List.cons_append] at hy
                injection hy with hy1 _
                rw [← hy1]
                exact List.all_eq_true.1 hokx z (by rw [hz]; exact List.mem_cons_self)
              · rintro _ _ m hm
                rw [w64 (by omega)] at hm
                subst hm
                refine lpE_intro (A := M27 p l b ev v) (i + 1 : Nat) ?_ hc (by show l.length - (i + 1) < l.length - i; omega)
                simp (maxSteps:=9^9) only [M27_I, jH, go_sem, Nat.reduceBEq]
                rw [hj, ev2]
                rfl
            · have hj := st.1 (by omega)
              rintro _ _ m hm
              rw [w64 (by omega)] at hm
              subst hm
              refine lpE_intro (A := M27 p l b ev v) (i + 1 : Nat) ?_ hc (by show l.length - (i + 1) < l.length - i; omega)
              simp (maxSteps:=9^9) only [M27_I, jH, go_sem, Nat.reduceBEq]
              rw [hj, ev2]
              rfl
          · obtain rfl : i = l.length := by omega
            rw [List.take_length]
            exact h2
  · exact h.elim
end Go.V
namespace Go.V
open Go.Proofs
set_option maxRecDepth 100000
set_option linter.unusedSimpArgs false
set_option linter.unnecessarySimpa false
set_option linter.unusedVariables false
theorem lt8_le {x : Int} (h : x < 8) : x ≤ 8 := by omega
def evsB (ev : List EvT.den) : List UInt8 := ev.flatMap fun e => numB e.1 ++ numB (zig e.2)
def jB (b : List Int) (ev : List EvT.den) (v : Int) : List UInt8 := numB v ++ intsB b ++ numB ev.length ++ evsB ev
theorem evsB_snoc (ev : List EvT.den) (e : EvT.den) : evsB (ev ++ [e]) = evsB ev ++ numB e.1 ++ numB (zig e.2) := by simp [evsB]
theorem evsB_length (ev : List EvT.den) : (evsB ev).length ≤ 18 * ev.length := by
 induction ev with
 | nil => simp [evsB]
 | cons x r ih =>
  have h1 := (numB_length x.1).2
  have h2 := (numB_length (zig x.2)).2
  simp only [evsB, List.flatMap_cons, List.length_append, List.length_cons] at ih ⊢
  omega
theorem jB_length (b : List Int) (ev : List EvT.den) (v : Int) : (jB b ev v).length ≤ 18 + 9 * b.length + 18 * ev.length := by
 have h1 := (numB_length v).2
 have h2 := intsB_length b
 have h3 := (numB_length (ev.length : Int)).2
 have h4 := evsB_length ev
 simp only [jB, List.length_append]; omega
def rngJ (b : List Int) (ev : List EvT.den) : Prop := inI b ∧ ∀ e ∈ ev, in64 e.2
def C60 : Contract := fun args hp K => match args with
 | [.ptr 0 0] => onJ hp fun b ev v => b.length = 8 ∧ ev.all okEv = true ∧ ev.length ≤ 16 ∧ (rngJ b ev → K (.own 2) (jH false b ev v ++ [.row true 1 .byte (jB b ev v)]))
 | _ => False
def L60 (b : List Int) (ev : List EvT.den) (v : Int) : LoopAnn := { G := Nat, I := fun i => ⟨[(0, .ptr 0 0), (3, .ptr 2 0), (20, .agg [.arr 8 (.int .i64) b]), (21, .int .i64 i)], jH false b ev v ++ [.struct [.own 3], .row true 1 .byte (numB v ++ intsB (b.take i))]⟩, R := fun _ i => i ≤ 8 ∧ inI (b.take i), μ := fun i => 8 - i }
theorem L60_I {b ev v} (i : Nat) : (L60 b ev v).I i = ⟨[(0, .ptr 0 0), (3, .ptr 2 0), (20, .agg [.arr 8 (.int .i64) b]), (21, .int .i64 i)], jH false b ev v ++ [.struct [.own 3], .row true 1 .byte (numB v ++ intsB (b.take i))]⟩ := rfl
def M60 (b : List Int) (ev : List EvT.den) (v : Int) : LoopAnn := { G := Nat, I := fun i => ⟨[(3, .ptr 2 0), (39, .own 1), (40, .int .i64 ev.length), (41, .int .i64 i)], jH false b ev v ++ [.struct [.own 3], .row true 1 .byte (numB v ++ intsB b ++ numB ev.length ++ evsB (ev.take i))]⟩, R := fun _ i => i ≤ ev.length ∧ ∀ e ∈ ev.take i, in64 e.2, μ := fun i => ev.length - i }
theorem M60_I {b ev v} (i : Nat) : (M60 b ev v).I i = ⟨[(3, .ptr 2 0), (39, .own 1), (40, .int .i64 ev.length), (41, .int .i64 i)], jH false b ev v ++ [.struct [.own 3], .row true 1 .byte (numB v ++ intsB b ++ numB ev.length ++ evsB (ev.take i))]⟩ := rfl
theorem s60 : Sound Tryz.prog 60 C60 := by
 refine sound_of_okF ok60 (.cons s58 (callable_of_okF ok58) (.cons s59 (callable_of_okF ok59) (.cons s108 (callable_of_okF ok108) (.cons s63 (callable_of_okF ok63) .nil)))) ?_
 intro args hp K h
 unfold C60 at h
 split at h
 ·obtain ⟨b, ev, v, rfl, hb, hok, hl, h⟩ := h
  refine ⟨by simp, [(1, L60 b ev v), (2, M60 b ev v)], ?_⟩
  unfold jH at h ⊢
  simp (maxSteps:=9^9) only [a60, r60, C58, C59, wrH, go_sem, Nat.reduceLeDiff, Nat.reduceSub, Nat.reduceMul, Nat.reduceLT, Nat.reduceBEq, Nat.reduceAdd]
  have b1 := (numB_length v).2
  have b2 : ∀ i, (intsB (b.take i)).length ≤ 72 := fun i => by
   have h1 := intsB_length (b.take i)
   have h2 : (b.take i).length ≤ 8 := by rw [List.length_take]; omega
   omega
  have b3 := (numB_length (ev.length : Int)).2
  have b4 : ∀ i, (evsB (ev.take i)).length ≤ 288 := fun i => by
   have h1 := evsB_length (ev.take i)
   have h2 : (ev.take i).length ≤ 16 := by rw [List.length_take]; omega
   omega
  have hmx := maxLen_val
  refine loop_intro (A := L60 b ev v) (0 : Nat) ?_ ⟨Nat.zero_le _, fun x hx => by simp at hx⟩ ?_
  ·simp (maxSteps:=9^9) only [L60_I, jH, go_sem, Nat.reduceBEq, Nat.reduceAdd]
   simp [intsB]
  ·intro (i : Nat) (hi : i ≤ 8 ∧ inI (b.take i))
   obtain ⟨hi, hin⟩ := hi
   simp (maxSteps:=9^9) only [L60_I, jH, C108, C59, wrH, go_sem, Nat.reduceSub, Nat.reduceMul, Nat.reduceLT, Nat.reduceBEq, Nat.reduceAdd]
   have hb2 := b2 i
   rintro c rfl
   refine sw_intro (fun hc => ?_) (fun hc => ?_) <;> simp only [decide_eq_true_eq, decide_eq_false_iff_not] at hc
   ·have hc' : i < 8 := by omega
    refine nd_intro hc' ⟨by simp only [List.length_append]; omega, ?_⟩
    rintro hx64 _ _ m hm
    rw [w64 (by omega)] at hm
    subst hm
    have hlt : i < b.length := by omega
    refine lpE_intro (A := L60 b ev v) (i + 1 : Nat) ?_ ⟨hc', fun x hx => ?_⟩ (by show 8 - (i + 1) < 8 - i; omega)
    rotate_left
    ·rw [← take_elt (t := .int .i64) hlt] at hx
     rcases List.mem_append.1 hx with hx | hx
     ·exact hin x hx
     ·simp only [List.mem_singleton] at hx
      subst hx
      exact hx64
    simp (maxSteps:=9^9) only [L60_I, jH, go_sem, Nat.reduceBEq, Nat.reduceAdd]
    rw [← take_elt (t := .int .i64) hlt, intsB_snoc]
    simp only [List.append_assoc]
    rfl
   ·obtain rfl : i = 8 := by omega
    have e8 : b.take 8 = b := List.take_of_length_le (by omega)
    rw [e8] at hin hb2 ⊢
    rintro _ _ m rfl _ m1 hm1
    rw [wu64 (by omega)] at hm1
    subst hm1
    refine ⟨by simp only [List.length_append]; omega, ?_⟩
    rintro _ _ m rfl
    refine loop_intro (A := M60 b ev v) (0 : Nat) ?_ ⟨Nat.zero_le _, fun x hx => by simp at hx⟩ ?_
    ·simp (maxSteps:=9^9) only [M60_I, jH, go_sem, Nat.reduceBEq, Nat.reduceAdd]
     simp [evsB]
    ·intro (i : Nat) (hi : i ≤ ev.length ∧ ∀ e ∈ ev.take i, in64 e.2)
     obtain ⟨hi, hin2⟩ := hi
     simp (maxSteps:=9^9) only [M60_I, jH, C108, C59, C63, wrH, go_sem, Nat.reduceLeDiff, Nat.reduceSub, Nat.reduceLT, Nat.reduceBEq, Nat.reduceAdd]
     have hb4 := b4 i
     rintro c rfl
     refine sw_intro (fun hc => ?_) (fun hc => ?_) <;> simp only [decide_eq_true_eq, decide_eq_false_iff_not] at hc
     ·have hx : okEv (elt EvT ev i) = true := List.all_eq_true.1 hok _ (List.mem_of_getElem? (elt_get (t := EvT) hc))
      unfold okEv at hx
      simp only [Bool.and_eq_true, decide_eq_true_eq] at hx
      refine nd_intro hc ?_
      have b5 := (numB_length (elt EvT ev i).1).2
      rintro _ m hm
      rw [wu64 (by have := hx.1; have := lt8_le hx.2; exact ⟨hx.1, Int.le_trans this (by decide)⟩)] at hm
      subst hm
      refine ⟨by simp only [List.length_append]; omega, by simp only [List.length_append]; omega, ?_⟩
      rintro hx64 _ _ m hm
      rw [w64 (by omega)] at hm
      subst hm
      refine lpE_intro (A := M60 b ev v) (i + 1 : Nat) ?_ ⟨hc, fun x hx => ?_⟩ (by show ev.length - (i + 1) < ev.length - i; omega)
      rotate_left
      ·rw [← take_elt (t := EvT) hc] at hx
       rcases List.mem_append.1 hx with hx | hx
       ·exact hin2 x hx
       ·simp only [List.mem_singleton] at hx
        subst hx
        exact hx64
      simp (maxSteps:=9^9) only [M60_I, jH, go_sem, Nat.reduceBEq, Nat.reduceAdd]
      rw [← take_elt (t := EvT) hc, evsB_snoc]
      simp only [List.append_assoc]
      rfl
     ·obtain rfl : i = ev.length := by omega
      rw [List.take_length] at hin2 ⊢
      exact h ⟨hin, hin2⟩
 ·exact h.elim
end Go.V
namespace Go.V
open Go.Proofs
set_option maxRecDepth 100000
set_option linter.unusedSimpArgs false
set_option linter.unnecessarySimpa false
set_option linter.unusedVariables false
/-! ### lists of letters; the inbox -/
def fmL (l : LetT.den) : Bool := decide (l.1.size ≤ 40) && decide (l.2.2.2.length ≤ 4)
def letsB (ls : List LetT.den) : List UInt8 := ls.flatMap letB
def packB (ls : List LetT.den) : List UInt8 := numB ls.length ++ letsB ls
def rngL (ls : List LetT.den) : Prop := ∀ x ∈ ls, in64 x.2.2.1 ∧ inI x.2.2.2
theorem fmL_iff {l : LetT.den} : fmL l = true ↔ l.1.size ≤ 40 ∧ l.2.2.2.length ≤ 4 := by simp [fmL]
theorem letsB_snoc (ls : List LetT.den) (x : LetT.den) : letsB (ls ++ [x]) = letsB ls ++ letB x := by simp [letsB]
theorem letsB_length (ls : List LetT.den) (h : ls.all fmL = true) : (letsB ls).length ≤ 112 * ls.length := by
 induction ls with
 | nil => simp [letsB]
 | cons x r ih =>
  rw [List.all_cons, Bool.and_eq_true] at h
  have h1 := letB_length x
  have h2 := fmL_iff.1 h.1
  have := ih h.2
  simp only [letsB, List.flatMap_cons, List.length_append, List.length_cons] at this ⊢
  omega
theorem packB_length (ls : List LetT.den) (h : ls.all fmL = true) : (packB ls).length ≤ 9 + 112 * ls.length := by
 have h1 := (numB_length (ls.length : Int)).2
 have h2 := letsB_length ls h
 simp only [packB, List.length_append]; omega
theorem elt_mem {t : Ty} {xs : List t.den} {i : Nat} (h : i < xs.length) : elt t xs i ∈ xs := List.mem_of_getElem? (elt_get h)
def C57 : Contract := fun args hp K => match args, hp with
 | [.sl p 56 (.pair .str (.pair (.int .u64) (.pair (.int .i64) (.sl 8 (.int .i64))))) ls], [] => (ls : List LetT.den).length ≤ 1000 ∧
   (ls.all fmL = true → rngL ls → K (.tup [.own 0, .int .i64 0]) [.row true 1 .byte (packB ls)]) ∧
   (ls.all fmL = false → K (.tup [.own 0, .int .i64 1]) [.row true 1 .byte []])
 | _, _ => False
def L57 (p : Bool) (ls : List LetT.den) : LoopAnn := { G := Nat, I := fun i => ⟨[(4, .ptr 0 0), (13, .sl p 56 LetT ls), (14, .int .i64 ls.length), (15, .int .i64 i)], wrH true (numB ls.length ++ letsB (ls.take i))⟩, R := fun _ i => i ≤ ls.length ∧ (ls.take i).all fmL = true ∧ rngL (ls.take i), μ := fun i => ls.length - i }
theorem L57_I {p ls} (i : Nat) : (L57 p ls).I i = ⟨[(4, .ptr 0 0), (13, .sl p 56 LetT ls), (14, .int .i64 ls.length), (15, .int .i64 i)], wrH true (numB ls.length ++ letsB (ls.take i))⟩ := rfl
theorem s57 : Sound Tryz.prog 57 C57 := by
 refine sound_of_okF ok57 (.cons s58 (callable_of_okF ok58) (.cons s59 (callable_of_okF ok59) (.cons s74 (callable_of_okF ok74) (.cons s106 (callable_of_okF ok106) (.cons s63 (callable_of_okF ok63) .nil))))) ?_
 intro args hp K h
 unfold C57 at h
 split at h
 ·rename_i p ls
  obtain ⟨hl, h1, h2⟩ := h
  refine ⟨by simp, [(1, L57 p ls)], ?_⟩
  simp (maxSteps:=9^9) only [a57, r57, C58, C59, wrH, go_sem, Nat.reduceLeDiff, Nat.reduceSub, Nat.reduceLT, Nat.reduceBEq, Nat.reduceAdd]
  have hmx := maxLen_val
  have b1 := (numB_length (ls.length : Int)).2
  rintro _ _ m rfl _ m1 hm1
  rw [wu64 (by omega)] at hm1
  subst hm1
  rintro _ _ m rfl
  refine loop_intro (A := L57 p ls) (0 : Nat) ?_ ⟨Nat.zero_le _, by simp, fun x hx => by simp at hx⟩ ?_
  ·simp (maxSteps:=9^9) only [L57_I, wrH, go_sem, Nat.reduceBEq]
   simp [letsB]
  ·intro (i : Nat) (hi : i ≤ ls.length ∧ (ls.take i).all fmL = true ∧ rngL (ls.take i))
   obtain ⟨hi, ha, hr⟩ := hi
   simp (maxSteps:=9^9) only [L57_I, C74, C106, C63, wrH, go_sem, Nat.reduceLeDiff, Nat.reduceSub, Nat.reduceLT, Nat.reduceBEq, Nat.reduceAdd]
   have b2 := letsB_length _ ha
   have b3 : (ls.take i).length ≤ 1000 := by rw [List.length_take]; omega
   rintro c rfl
   refine sw_intro (fun hc => ?_) (fun hc => ?_) <;> simp only [decide_eq_true_eq, decide_eq_false_iff_not] at hc
   ·have snoc : ls.take (i + 1) = ls.take i ++ [elt LetT ls i] := (take_elt (t := LetT) hc).symm
    refine nd_intro hc (sw_intro (fun hf => ?_) (fun hf => ?_))
    ·have hf2 := fmL_iff.1 hf
     refine ⟨by omega, by omega, by simp only [List.length_append]; omega, ?_⟩
     rintro hx64 _ _ m hm
     rw [w64 (by omega)] at hm
     subst hm
     refine lpE_intro (A := L57 p ls) (i + 1 : Nat) ?_ ⟨hc, ?_, ?_⟩ (by show ls.length - (i + 1) < ls.length - i; omega)
     ·simp (maxSteps:=9^9) only [L57_I, wrH, go_sem, Nat.reduceBEq]
      rw [snoc, letsB_snoc]
      simp only [List.append_assoc]
      rfl
     ·rw [snoc, List.all_append, ha]
      simpa [fmL] using hf2
     ·intro x hx
      rw [snoc] at hx
      rcases List.mem_append.1 hx with hx | hx
      ·exact hr x hx
      ·simp only [List.mem_singleton] at hx
       subst hx
       exact hx64
    ·refine h2 ?_
     cases ht : ls.all fmL with
     | false => rfl
     | true =>
      have := List.all_eq_true.1 ht _ (elt_mem (t := LetT) hc)
      unfold fmL at this
      rw [hf] at this
      cases this
   ·obtain rfl : i = ls.length := by omega
    rw [List.take_length] at ha hr ⊢
    exact h1 ha hr
 ·exact h.elim
def C28 : Contract := fun args hp K => match args, hp with
 | [.sl p 56 (.pair .str (.pair (.int .u64) (.pair (.int .i64) (.sl 8 (.int .i64))))) ls], [] => 0 ≤ (ls : List LetT.den).length ∧ K (.own 0) [.row true 56 LetT ls]
 | _, _ => False
def L28 (p : Bool) (ls : List LetT.den) : LoopAnn := cntA (fun i => ⟨[(0, .sl p 56 LetT ls), (3, .own 0), (6, .int .i64 ls.length), (7, .int .i64 i)], [.row true 56 LetT (ls.take i)]⟩) ls.length
theorem s28 : Sound Tryz.prog 28 C28 := by
 refine sound_of_okF ok28 (.cons s78 (callable_of_okF ok78) .nil) ?_
 intro args hp K h
 unfold C28 at h
 split at h
 ·rename_i p ls
  obtain ⟨hl, h⟩ := h
  refine ⟨by simp, [(1, L28 p ls)], ?_⟩
  simp (maxSteps:=9^9) only [a28, r28, go_sem, Nat.reduceBEq]
  have hmx := maxLen_val
  rintro _ _ m rfl
  refine loop_intro (A := L28 p ls) (0 : Nat) ?_ (Nat.zero_le _) ?_
  ·simp (maxSteps:=9^9) only [L28, cntA_I, go_sem, Nat.reduceBEq]
   rfl
  ·intro (i : Nat) (hi : i ≤ ls.length)
   simp (maxSteps:=9^9) only [L28, cntA_I, C78, go_sem, Nat.reduceLeDiff, Nat.reduceSub, Nat.reduceMul, Nat.reduceLT, Nat.reduceBEq, Nat.reduceAdd]
   rintro c rfl
   refine sw_intro (fun hc => ?_) (fun hc => ?_) <;> simp only [decide_eq_true_eq, decide_eq_false_iff_not] at hc
   ·have hl2 : (ls.take i).length = i := by rw [List.length_take]; omega
    rw [hl2]
    refine nd_intro hc ⟨fun _ => by omega, ?_⟩
    rintro _ _ _ m hm
    rw [w64 (by omega)] at hm
    subst hm
    refine cntA_next hc ?_
    simp (maxSteps:=9^9) only [go_sem, Nat.reduceBEq]
    rw [← take_elt (t := LetT) hc]
    rfl
   ·obtain rfl : i = ls.length := by omega
    rw [List.take_length]
    exact h
 ·exact h.elim
def inH (mv : Bool) (l : List LetT.den) : List SB := [.struct [.own 1], .row mv 56 LetT l]
def onIn (hp : List SB) (k : List LetT.den → Prop) : Prop := ∃ l, hp = inH false l ∧ k l
@[go_sem] theorem onIn_eq {l k} : onIn [.struct [.own 1], .row false 56 (.pair .str (.pair (.int .u64) (.pair (.int .i64) (.sl 8 (.int .i64))))) (no_index l)] k = k l := by
 apply propext; constructor
 ·rintro ⟨l', h, hk⟩
  unfold inH at h
  cases h
  exact hk
 ·exact fun h => ⟨l, rfl, h⟩
def C73 : Contract := fun args hp K => match args, hp with
 | [], [] => K (.ptr 0 0) (inH true [])
 | _, _ => False
theorem s73 : Sound Tryz.prog 73 C73 := by
 refine sound_of_okF ok73 .nil ?_
 intro args hp K h
 unfold C73 at h
 split at h
 ·refine ⟨by simp, [], ?_⟩
  unfold inH at h
  simp (maxSteps:=9^9) only [a73, r73, go_sem, Nat.reduceSub, Nat.reduceBEq, Nat.reduceAdd]
  exact h
 ·exact h.elim
def C11 : Contract := fun args hp K => match args with
 | [.ptr 0 0] => onIn hp fun l => l.length ≤ 1000 ∧ K (.int .i64 l.length) hp
 | _ => False
theorem s11 : Sound Tryz.prog 11 C11 := by
 refine sound_of_okF ok11 .nil ?_
 intro args hp K h
 unfold C11 at h
 split at h
 ·obtain ⟨l, rfl, hl, h⟩ := h
  refine ⟨by simp, [], ?_⟩
  unfold inH at h ⊢
  simp (maxSteps:=9^9) only [a11, r11, go_sem, Nat.reduceBEq, Nat.reduceAdd]
  rintro _ _ m rfl
  exact h
 ·exact h.elim
def C19 : Contract := fun args hp K => match args with
 | [.ptr 0 0, .agg [.str f, .int .u64 s, .int .i64 k, x]] => onIn hp fun l => onL (.int .i64) 8 x fun xs => l.length ≤ 8 ∧
   (fmL (f, s, k, xs) = false → K (.int .i64 1) hp) ∧
   (fmL (f, s, k, xs) = true → 8 ≤ l.length → K (.int .i64 7) hp) ∧
   (fmL (f, s, k, xs) = true → l.length < 8 → K (.int .i64 0) (inH true (l ++ [(f, s, k, xs)])))
 | _ => False
theorem s19 : Sound Tryz.prog 19 C19 := by
 refine sound_of_okF ok19 (.cons s74 (callable_of_okF ok74) (.cons s75 (callable_of_okF ok75) .nil)) ?_
 intro args hp K h
 unfold C19 at h
 split at h
 ·rename_i f s k x
  obtain ⟨l, rfl, h⟩ := h
  refine ⟨by simp, [], ?_⟩
  rcases h with ⟨rfl, hl, h1, h2, h3⟩ | ⟨p, xs, rfl, hl, h1, h2, h3⟩
  ·unfold inH at h1 h2 h3 ⊢
   simp (maxSteps:=9^9) only [a19, r19, C74, C75, go_sem, Nat.reduceLeDiff, Nat.reduceSub, Nat.reduceMul, Nat.reduceLT, Nat.reduceBEq, Nat.reduceAdd]
   have hmx := maxLen_val
   refine sw_intro (fun hf => ?_) (fun hf => h1 (by simpa [fmL] using hf))
   have hf2 : fmL (f, s, k, []) = true := by simpa [fmL] using hf
   rintro _ _ m rfl c rfl
   refine sw_intro (fun hc => ?_) (fun hc => ?_) <;> simp only [decide_eq_true_eq, decide_eq_false_iff_not] at hc
   ·exact h2 hf2 (by omega)
   ·exact ⟨fun _ => by omega, fun _ => h3 hf2 (by omega)⟩
  ·unfold inH at h1 h2 h3 ⊢
   simp (maxSteps:=9^9) only [a19, r19, C74, C75, go_sem, Nat.reduceLeDiff, Nat.reduceSub, Nat.reduceMul, Nat.reduceLT, Nat.reduceBEq, Nat.reduceAdd]
   have hmx := maxLen_val
   refine sw_intro (fun hf => ?_) (fun hf => h1 (by simpa [fmL] using hf))
   have hf2 : fmL (f, s, k, xs) = true := by simpa [fmL] using hf
   rintro _ _ m rfl c rfl
   refine sw_intro (fun hc => ?_) (fun hc => ?_) <;> simp only [decide_eq_true_eq, decide_eq_false_iff_not] at hc
   ·exact h2 hf2 (by omega)
   ·exact ⟨fun _ => by omega, fun _ => h3 hf2 (by omega)⟩
 ·exact h.elim
def C23 : Contract := C19
theorem s23 : Sound Tryz.prog 23 C23 := by
 refine sound_of_okF ok23 (.cons s77 (callable_of_okF ok77) (.cons s78 (callable_of_okF ok78) .nil)) ?_
 intro args hp K h
 unfold C23 C19 at h
 split at h
 ·rename_i f s k x
  obtain ⟨l, rfl, h⟩ := h
  refine ⟨by simp, [], ?_⟩
  rcases h with ⟨rfl, hl, h1, h2, h3⟩ | ⟨p, xs, rfl, hl, h1, h2, h3⟩
  ·unfold inH at h1 h2 h3 ⊢
   simp (maxSteps:=9^9) only [a23, r23, C77, C74, C78, go_sem, Nat.reduceLeDiff, Nat.reduceSub, Nat.reduceMul, Nat.reduceLT, Nat.reduceBEq, Nat.reduceAdd]
   have hmx := maxLen_val
   refine sw_intro (fun hf => ?_) (fun hf => h1 (by simpa [fmL] using hf))
   have hf2 : fmL (f, s, k, []) = true := by simpa [fmL] using hf
   rintro _ _ m rfl c rfl
   refine sw_intro (fun hc => ?_) (fun hc => ?_) <;> simp only [decide_eq_true_eq, decide_eq_false_iff_not] at hc
   ·exact h2 hf2 (by omega)
   ·exact ⟨fun _ => by omega, fun _ => h3 hf2 (by omega)⟩
  ·unfold inH at h1 h2 h3 ⊢
   simp (maxSteps:=9^9) only [a23, r23, C77, C74, C78, go_sem, Nat.reduceLeDiff, Nat.reduceSub, Nat.reduceMul, Nat.reduceLT, Nat.reduceBEq, Nat.reduceAdd]
   have hmx := maxLen_val
   refine sw_intro (fun hf => ?_) (fun hf => h1 (by simpa [fmL] using hf))
   have hf2 : fmL (f, s, k, xs) = true := by simpa [fmL] using hf
   rintro _ _ m rfl c rfl
   refine sw_intro (fun hc => ?_) (fun hc => ?_) <;> simp only [decide_eq_true_eq, decide_eq_false_iff_not] at hc
   ·exact h2 hf2 (by omega)
   ·exact ⟨fun _ => by omega, fun _ => h3 hf2 (by omega)⟩
 ·exact h.elim
def C61 : Contract := fun args hp K => match args with
 | [.ptr 0 0] => onIn hp fun l => l.length ≤ 8 ∧ l.all fmL = true ∧ (rngL l → K (.own 2) (inH false l ++ [.row true 1 .byte (packB l)]))
 | _ => False
theorem s61 : Sound Tryz.prog 61 C61 := by
 refine sound_of_okF ok61 (.cons s57 (callable_of_okF ok57) .nil) ?_
 intro args hp K h
 unfold C61 at h
 split at h
 ·obtain ⟨l, rfl, hl, ha, h⟩ := h
  refine ⟨by simp, [], ?_⟩
  unfold inH at h ⊢
  simp (maxSteps:=9^9) only [a61, r61, C57, go_sem, Nat.reduceSub, Nat.reduceLT, Nat.reduceBEq, Nat.reduceAdd]
  exact ⟨rfl, by omega, fun _ => h, fun h9 => by rw [ha] at h9; cases h9⟩
 ·exact h.elim
end Go.V
