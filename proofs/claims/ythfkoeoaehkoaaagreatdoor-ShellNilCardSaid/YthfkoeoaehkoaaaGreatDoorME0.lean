/- A part of the proof layer, or functions of the given program in it: contracts and their proofs. -/
import Derived.Test.YthfkoeoaehkoaaaGreatDoorR2
import Derived.Test.YthfkoeoaehkoaaaGreatDoorMVzb
import Derived.Test.YthfkoeoaehkoaaaGreatDoorMS10
namespace Go.V
open Go.Proofs
open Go.Maps Go.Sort Go.Shelf
set_option linter.unusedSimpArgs false
set_option linter.unnecessarySimpa false
set_option linter.unusedVariables false
/-! ### sorted keys, for a run at closed values -/
def insB (x : List UInt8) : List (List UInt8) → List (List UInt8)
 | [] => [x]
 | y :: r => if leB x y then x :: y :: r else y :: insB x r
def sortB (l : List (List UInt8)) : List (List UInt8) := l.foldr insB []
theorem insB_perm (x : List UInt8) : ∀ l, (insB x l).Perm (x :: l)
 | [] => .refl _
 | y :: r => by
  unfold insB
  split
  ·exact .refl _
  ·exact ((insB_perm x r).cons y).trans (.swap x y r)
theorem sortB_perm : ∀ l, (sortB l).Perm l
 | [] => .refl _
 | x :: r => (insB_perm x (sortB r)).trans ((sortB_perm r).cons x)
theorem leB_total (x y : List UInt8) : leB x y = true ∨ leB y x = true := by
 simp only [leB, decide_eq_true_eq]
 exact List.le_total x y
theorem leB_trans {x y z : List UInt8} (h1 : leB x y = true) (h2 : leB y z = true) : leB x z = true := by
 simp only [leB, decide_eq_true_eq] at *
 exact List.le_trans h1 h2
theorem insB_sorted (x : List UInt8) : ∀ l, l.Pairwise (fun a b => leB a b = true) → (insB x l).Pairwise (fun a b => leB a b = true)
 | [], _ => by simp [insB]
 | y :: r, h => by
  unfold insB
  rw [List.pairwise_cons] at h
  split
  ·rename_i hxy
   rw [List.pairwise_cons]
   refine ⟨fun z hz => ?_, List.pairwise_cons.2 h⟩
   rcases List.mem_cons.1 hz with rfl | hz
   ·exact hxy
   ·exact leB_trans hxy (h.1 z hz)
  ·rename_i hxy
   rw [List.pairwise_cons]
   refine ⟨fun z hz => ?_, insB_sorted x r h.2⟩
   rcases List.mem_cons.1 ((insB_perm x r).mem_iff.1 hz) with rfl | hz
   ·exact (leB_total z y).resolve_left hxy
   ·exact h.1 z hz
theorem sortB_sorted : ∀ l, (sortB l).Pairwise (fun a b => leB a b = true)
 | [] => .nil
 | x :: r => insB_sorted x _ (sortB_sorted r)
theorem sortB_eq (l : List (List UInt8)) : l.mergeSort leB = sortB l := by
 rw [← mergeSort_of_perm (sortB_perm l)]
 exact List.mergeSort_of_pairwise (sortB_sorted l)
def nSort : List SV → List SB → Outs (SV × List SB)
 | [.fn f [.ptr 0 0]], [.struct [.mp 1], .map va .str vt m] => if (f = 282 ∨ f = 337) ∧ (m : List (ByteArray × vt.den)).length ≤ 1000000 then
   some [(.own 2, [.struct [.mp 1], .map va .str vt m, .row true 16 .str ((sortB (keysB m)).map fun l => ⟨⟨l⟩⟩)])] else none
 | _, _ => none
theorem nSort_ok : Sound Tryz.prog 215 (fun args hp K => oAll (nSort args hp) (fun p => K p.1 p.2)) := by
 intro args hp K h
 refine s215 args hp K ?_
 unfold nSort at h
 split at h
 ·split at h
  ·rename_i f va vt m hm
   refine ⟨hm.1, hm.2, ?_⟩
   unfold srtK
   rw [sortB_eq]
   exact oAll_pair (K := K) h
  ·exact (oAll_none h).elim
 ·exact (oAll_none h).elim
theorem nSort_c : Callable Tryz.prog 215 := ⟨_, Tryz.func215, rfl, by decide⟩
end Go.V
namespace Go.V
open Go.Proofs Go.Shelf Go.RowKit
set_option maxRecDepth 100000
set_option linter.unusedSimpArgs false
set_option linter.unnecessarySimpa false
set_option linter.unusedVariables false
theorem Chg.setCellE (w : World) (b o : Nat) (v : Value) : Chg w (w.setCell ⟨b, o, none⟩ v) (fun c => c = b) :=
 ⟨rfl, rfl, rfl, by simp [World.setCell], fun c _ hc => Below.heap_setCell w ⟨b, o, none⟩ v c hc⟩
theorem upd_structE {hp : List SB} {E : En} (h : HS hp E) {cells cells' : List SV} (hi : hp[0]? = some (.struct cells)) {w' : World} (hc : Chg E.w w' (fun b => (E.ρ 0).blk = some b)) (ho : SBok { E with w := w' } (E.ρ 0) (.struct cells')) :
  HS (hp.set 0 (.struct cells')) { E with w := w' } ∧ Ren E { E with w := w' } some ∧ Ev hp E (hp.set 0 (.struct cells')) { E with w := w' } ∧ Id hp.length E.ρ (hp.set 0 (.struct cells')) E.ρ := by
 have hown : ∀ b, (E.ρ 0).blk = some b → ((E.ρ 0).blk = some b ∨ E.w.heap.size ≤ b) ∧ b < w'.heap.size := fun b hb => ⟨.inl hb, Nat.lt_of_lt_of_le (h.own b ⟨0, _, hi, rfl, hb⟩).1 hc.size⟩
 have hb := h.upd (sb' := .struct cells') (f := some) (rv' := E.ρ 0) hi rfl (.inr ⟨rfl, rfl⟩) hc hown (by rw [upR_self]; exact ho) rfl
 rw [upR_self, map_ren_some] at hb
 have he := Ev.upd (sb' := .struct cells') (f := some) (rv' := E.ρ 0) hi rfl hc (fun b hb => (hown b hb).1)
 rw [upR_self, map_ren_some] at he
 refine ⟨hb.1, hb.2, he, by simp, fun i sb _ hsb => ?_⟩
 rw [List.getElem?_set] at hsb
 split at hsb
 ·split at hsb
  ·cases hsb; rfl
  ·cases hsb
 ·cases sb <;> first | rfl | trivial | (rename_i mv _ _ _; cases mv <;> first | rfl | trivial)
abbrev AtT : Ty := .pair .unit (.pair .unit (.int .u64))
def nAdd : List SV → List SB → Outs (SV × List SB)
 | [.ptr 0 0, .int .i64 i, .int .u64 n], [.struct [.arr 8 (.pair .unit (.pair .unit (.int .u64))) xs]] => match xs with
  | [] => none
  | x :: r => if i = 0 then some [(.int .u64 (IntKind.u64.wrap (x.2.2 + n)), [.struct [.arr 8 AtT (((), (), IntKind.u64.wrap (x.2.2 + n)) :: r)]])] else none
 | _, _ => none
theorem nAdd_ok : Sound Tryz.prog 161 (fun args hp K => oAll (nAdd args hp) (fun p => K p.1 p.2)) := by
 intro args hp K h E vs hs hg hd
 unfold nAdd at h
 split at h
 ·rename_i i n xs
  split at h
  ·exact (oAll_none h).elim
  ·rename_i x r
   split at h
   ·rename_i hi
    subst hi
    have h := oAll_pair (K := K) h
    simp only [denL, den] at hd
    obtain ⟨v, r1, rfl, ⟨hN, b, hb, rfl⟩, v2, r2, rfl, ⟨rfl, _⟩, v3, r3, rfl, ⟨rfl, hn⟩, rfl⟩ := hd
    obtain ⟨b', cur, T, fr, q1, q2, q3, q4⟩ := hs.ok 0 _ rfl
    rw [hb] at q1; cases q1
    simp only [denC] at q4
    obtain ⟨c1, c2, q5, q6, q7, q8, rfl⟩ := q4
    obtain ⟨d1, d2, rfl, q9, q10⟩ := q8
    simp only [rd] at q9
    obtain ⟨e1, e2, rfl, rfl, e3, e4, rfl, rfl, rfl, hx⟩ := q9
    simp only [List.nil_append, List.append_nil, List.cons_append] at q5
    have hc0 : cur[0]? = some (.int .u64 x.2.2) := by rw [← Array.getElem?_toList, q5]; rfl
    have hlt : 0 < cur.size := by
     rw [← Array.length_toList, q5]; simp
    have hcell : E.w.cell? ⟨b, 0, none⟩ = some (.int .u64 x.2.2) := by simp [World.cell?, q2, hc0]
    refine (add161 b x.2.2 n E.w hcell (frozen_nf q2 q3.1 hlt)).mono ?_
    rintro e w' ⟨rfl, rfl⟩
    have hc : Chg E.w (E.w.setCell ⟨b, 0, none⟩ (.int .u64 (IntKind.u64.wrap (x.2.2 + n)))) (fun c => (E.ρ 0).blk = some c) := (Chg.setCellE _ _ _ _).mono (fun c hcb => by subst hcb; exact hb)
    have hw : inR .u64 (IntKind.u64.wrap (x.2.2 + n)) := k_range _ _
    have ho : SBok { E with w := E.w.setCell ⟨b, 0, none⟩ (.int .u64 (IntKind.u64.wrap (x.2.2 + n))) } (E.ρ 0) (.struct [.arr 8 AtT (((), (), IntKind.u64.wrap (x.2.2 + n)) :: r)]) := by
     refine ⟨b, cur.setIfInBounds 0 (.int .u64 (IntKind.u64.wrap (x.2.2 + n))), T, fr, hb, ?_, ?_, ?_⟩
     ·simp [World.setCell, Array.getElem?_modify, q2]
     ·simpa using q3
     ·have hl : (cur.setIfInBounds 0 (.int .u64 (IntKind.u64.wrap (x.2.2 + n)))).toList = .int .u64 (IntKind.u64.wrap (x.2.2 + n)) :: d2 := by
       rw [Array.toList_setIfInBounds, q5]; rfl
      rw [hl]
      simp only [denC]
      refine ⟨_, [], (List.append_nil _).symm, q6, rfl, ⟨[_], d2, rfl, ?_, rdL_mono (fun y c hy => rd_flat AtT rfl y c hy) _ _ q10⟩, rfl⟩
      simp only [rd]
      exact ⟨[], [_], rfl, rfl, [], [_], rfl, rfl, rfl, hw⟩
    obtain ⟨h1, h2, h3, h4⟩ := upd_structE hs rfl hc ho
    exact ⟨_, _, _, _, rfl, rfl, h, h1, by simp only [den]; exact ⟨trivial, hw⟩, h3, h4⟩
   ·exact (oAll_none h).elim
 ·exact (oAll_none h).elim
theorem nAdd_c : Callable Tryz.prog 161 := ⟨_, Tryz.func161, rfl, by decide⟩
/-! ### Sum -/
def sumS (x : Int) (c : UInt8) : Int := IntKind.u64.wrap (bitsI .xor .u64 x c.toNat * 1099511628211)
def sumF (bs : List UInt8) : Int := bs.foldl sumS 14695981039346656037
def C315 : Contract := fun args hp K => match args, hp with
 | [.sl p 1 .byte xs], [] => K (.int .u64 (sumF xs)) []
 | _, _ => False
theorem s315 : Sound Tryz.prog 315 C315 := by
 refine sound_of_okF ok315 .nil ?_
 intro args hp K h
 unfold C315 at h
 split at h
 ·rename_i p xs
  refine ⟨by simp, [(1, cntA (fun i => ⟨[(3, .int .u64 (sumF (xs.take i))), (6, .sl p 1 .byte xs), (7, .int .i64 xs.length), (8, .int .i64 i)], []⟩) xs.length)], ?_⟩
  simp (maxSteps:=9^9) only [a315, r315, go_sem, eq_self, and_self, Int.natCast_pos, Int.le_refl, Nat.le_refl, Int.natCast_nonneg, Int.ofNat_lt, Int.ofNat_le, Int.reduceLT, Int.reduceLE, Int.reduceEq, Int.reduceNe, Int.reduceAdd, Int.reduceSub, Int.reduceMul, Int.reduceToNat, Int.reduceNeg, Nat.reduceEqDiff, Nat.reduceLeDiff, Nat.reduceSub, Nat.reduceMul, Nat.reduceLT, Nat.reduceBEq, Nat.reduceAdd, Nat.reduceDiv, Nat.reduceMod]
  intro _ _ m hm
  subst hm
  refine loop_intro (A := cntA _ xs.length) (0 : Nat) ?_ (Nat.zero_le _) ?_
  ·simp (maxSteps:=9^9) only [cntA_I, go_sem, eq_self, and_self, Int.natCast_pos, Int.le_refl, Nat.le_refl, Int.natCast_nonneg, Int.ofNat_lt, Int.ofNat_le, Int.reduceLT, Int.reduceLE, Int.reduceEq, Int.reduceNe, Int.reduceAdd, Int.reduceSub, Int.reduceMul, Int.reduceToNat, Int.reduceNeg, Nat.reduceEqDiff, Nat.reduceLeDiff, Nat.reduceSub, Nat.reduceMul, Nat.reduceLT, Nat.reduceBEq, Nat.reduceAdd, Nat.reduceDiv, Nat.reduceMod]
   rfl
  ·intro (i : Nat) (hi : i ≤ xs.length)
   simp (maxSteps:=9^9) only [cntA_I, go_sem, eq_self, and_self, Int.natCast_pos, Int.le_refl, Nat.le_refl, Int.natCast_nonneg, Int.ofNat_lt, Int.ofNat_le, Int.reduceLT, Int.reduceLE, Int.reduceEq, Int.reduceNe, Int.reduceAdd, Int.reduceSub, Int.reduceMul, Int.reduceToNat, Int.reduceNeg, Nat.reduceEqDiff, Nat.reduceLeDiff, Nat.reduceSub, Nat.reduceMul, Nat.reduceLT, Nat.reduceBEq, Nat.reduceAdd, Nat.reduceDiv, Nat.reduceMod]
   rintro c rfl
   have hm := maxLen_val
   refine sw_intro (fun hc => ?_) (fun hc => ?_) <;> simp only [decide_eq_true_eq, decide_eq_false_iff_not] at hc
   ·have hlt : i < xs.length := by omega
    refine nd_intro hlt ?_
    rintro _ m0 hm0
    have h8 := UInt8.toNat_lt (elt .byte xs i)
    rw [wu64 (by omega)] at hm0
    rintro _ _ m1 hm1 _ _ m2 hm2 _ _ m3 hm3
    rw [w64 (by omega)] at hm3
    subst hm3
    refine cntA_next hlt ?_
    simp (maxSteps:=9^9) only [go_sem, eq_self, and_self, Int.natCast_pos, Int.le_refl, Nat.le_refl, Int.natCast_nonneg, Int.ofNat_lt, Int.ofNat_le, Int.reduceLT, Int.reduceLE, Int.reduceEq, Int.reduceNe, Int.reduceAdd, Int.reduceSub, Int.reduceMul, Int.reduceToNat, Int.reduceNeg, Nat.reduceEqDiff, Nat.reduceLeDiff, Nat.reduceSub, Nat.reduceMul, Nat.reduceLT, Nat.reduceBEq, Nat.reduceAdd, Nat.reduceDiv, Nat.reduceMod]
    have e : m2 = sumF (xs.take (i + 1)) := by
     rw [← take_elt hlt, hm2, hm1, hm0]
     unfold sumF
     rw [List.foldl_append]
     rfl
    rw [e]
    rfl
   ·have : i = xs.length := by omega
    subst this
    rw [List.take_length]
    exact h
 ·exact h.elim
def nSum : List SV → List SB → Outs (SV × List SB)
 | [.sl p 1 .byte xs], [] => some [(.int .u64 (sumF xs), [])]
 | _, _ => none
theorem nSum_ok : Sound Tryz.prog 315 (fun args hp K => oAll (nSum args hp) (fun p => K p.1 p.2)) := by
 intro args hp K h
 refine s315 args hp K ?_
 unfold nSum at h
 unfold C315
 split at h
 ·exact oAll_pair (K := K) h
 ·exact (oAll_none h).elim
theorem nSum_c : Callable Tryz.prog 315 := callable_of_okF ok315
end Go.V
