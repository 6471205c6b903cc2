/- The Builder: copyCheck and String as contracts; WriteByte and WriteString. -/
import Derived.Test.YtaeoiobjddknbaaDoorMN1
import Derived.Test.YtaeoiobjddknbaaDoorVy
namespace Go.V
open Go.Proofs Go.Shelf Go.RowKit
set_option maxRecDepth 100000
set_option maxHeartbeats 2000000
set_option linter.unusedSimpArgs false
set_option linter.unnecessarySimpa false
set_option linter.unusedVariables false
theorem Chg.setCell (w : World) (b o : Nat) (v : Value) : Chg w (w.setCell ⟨b, o, none⟩ v) (fun c => c = b) :=
 ⟨rfl, rfl, rfl, by simp [World.setCell], fun c _ hc => Below.heap_setCell w ⟨b, o, none⟩ v c hc⟩
theorem Chg.freeze (w : World) (b n : Nat) : Chg w (w.freeze ⟨b, 0, none⟩ n) (fun c => c = b) := by
 unfold World.freeze
 split
 ·exact Chg.refl _ _
 ·exact ⟨rfl, rfl, rfl, by simp, fun c _ hc => by
   show (w.heap.modify b _)[c]? = w.heap[c]?
   rw [Array.getElem?_modify]
   split
   ·rename_i h; exact absurd h.symm hc
   ·rfl⟩
theorem upd_struct {hp : List SB} {E : En} (h : HS hp E) {cells cells' : List SV} (hi : hp[0]? = some (.struct cells)) {w' : World} (hc : Chg E.w w' (fun b => (E.ρ 0).blk = some b)) (ho : SBok { E with w := w' } (E.ρ 0) (.struct cells')) :
  HS (hp.set 0 (.struct cells')) { E with w := w' } ∧ Ren E { E with w := w' } some ∧ Ev hp E (hp.set 0 (.struct cells')) { E with w := w' } ∧ Id hp.length E.ρ (hp.set 0 (.struct cells')) E.ρ := by
 have hown : ∀ b, (E.ρ 0).blk = some b → ((E.ρ 0).blk = some b ∨ E.w.heap.size ≤ b) ∧ b < w'.heap.size := fun b hb => ⟨.inl hb, Nat.lt_of_lt_of_le (h.own b ⟨0, _, hi, rfl, hb⟩).1 hc.size⟩
 have hb := h.upd (sb' := .struct cells') (f := some) (rv' := E.ρ 0) hi rfl (.inr ⟨rfl, rfl⟩) hc hown (by rw [upR_self]; exact ho) rfl
 rw [upR_self, map_ren_some] at hb
 have he := Ev.upd (sb' := .struct cells') (f := some) (rv' := E.ρ 0) hi rfl hc (fun b hb => (hown b hb).1)
 rw [upR_self, map_ren_some] at he
 refine ⟨hb.1, hb.2, he, by simp, fun i sb _ hsb => ?_⟩
 rw [List.getElem?_set] at hsb
 split at hsb
 ·split at hsb
  ·cases hsb; rfl
  ·cases hsb
 ·cases sb <;> first | rfl | trivial | (rename_i mv _ _ _; cases mv <;> first | rfl | trivial)
def C67 : Contract := fun args hp K => match args, hp with
 | [.pty 0 71], [.struct [.nilp, .nils]] => K (.tup []) [.struct [.ptr 0 0, .nils]]
 | [.pty 0 71], [.struct [.ptr 0 0, .own 1], .row mv eb t xs] => K (.tup []) [.struct [.ptr 0 0, .own 1], .row mv eb t xs]
 | _, _ => False
theorem s67 : Sound Tryd.prog 67 C67 := by
 intro args hp K h E vs hs hg hd
 unfold C67 at h
 split at h
 ·simp only [denL, den] at hd
  obtain ⟨v, r, rfl, ⟨hN, b, hb, rfl, hty⟩, rfl⟩ := hd
  obtain ⟨b', cur, T, fr, q1, q2, q3, q4⟩ := hs.ok 0 _ rfl
  rw [hb] at q1; cases q1
  obtain rfl := q3.2 71 hty
  rw [denC_cons rfl] at q4
  obtain ⟨v1, c2, q5, q6, q7⟩ := q4
  rw [denC_cons rfl] at q7
  obtain ⟨v2, c3, rfl, q8, q9⟩ := q7
  simp only [den, denC] at q6 q8 q9
  subst q6 q8 q9
  have hcur : cur = #[.pointer none, .slice none 0 0] := by apply Array.ext'; rw [q5]
  subst hcur
  refine (bld_fresh b E.w (by simp [World.cell?, q2]) (by simp [World.shape?, q2]) (frozen_nf q2 q3.1 (by decide))).mono ?_
  rintro e w' ⟨rfl, rfl⟩
  have hc : Chg E.w (E.w.setCell ⟨b, 0, none⟩ (.pointer (some ⟨b, 0, none⟩))) (fun c => (E.ρ 0).blk = some c) := (Chg.setCell _ _ _ _).mono (fun c hcb => by subst hcb; exact hb)
  have ho : SBok { E with w := E.w.setCell ⟨b, 0, none⟩ (.pointer (some ⟨b, 0, none⟩)) } (E.ρ 0) (.struct [.ptr 0 0, .nils]) := by
   refine ⟨b, #[.pointer (some ⟨b, 0, none⟩), .slice none 0 0], 71, fr, hb, ?_, q3, ?_⟩
   ·simp [World.setCell, Array.getElem?_modify, q2]
   ·rw [denC_cons rfl]
    refine ⟨_, _, rfl, ?_, ?_⟩
    ·simp only [den]; exact ⟨hN, b, hb, rfl⟩
    ·rw [denC_cons rfl]
     exact ⟨_, _, rfl, by simp only [den], by simp only [denC]⟩
  obtain ⟨h1, h2, h3, h4⟩ := upd_struct hs rfl hc ho
  exact ⟨_, _, _, _, rfl, rfl, h, h1, by simp only [den, denL]; exact ⟨_, rfl, rfl⟩, h3, h4⟩
 ·rename_i mv eb t xs
  simp only [denL, den] at hd
  obtain ⟨v, r, rfl, ⟨hN, b, hb, rfl, hty⟩, rfl⟩ := hd
  obtain ⟨b', cur, T, fr, q1, q2, q3, q4⟩ := hs.ok 0 _ rfl
  rw [hb] at q1; cases q1
  rw [denC_cons rfl] at q4
  obtain ⟨v1, c2, q5, q6, q7⟩ := q4
  simp only [den] at q6
  obtain ⟨_, b2, hb2, rfl⟩ := q6
  rw [hb] at hb2; cases hb2
  have hcell : E.w.cell? ⟨b, 0, none⟩ = some (.pointer (some ⟨b, 0, none⟩)) := by
   have : cur[0]? = some (.pointer (some ⟨b, 0, none⟩)) := by rw [← Array.getElem?_toList, q5]; rfl
   simp [World.cell?, q2, this]
  refine (bld_used b E.w hcell).mono ?_
  rintro e w' ⟨rfl, rfl⟩
  exact ⟨_, _, E, _, rfl, rfl, h, hs, by simp only [den, denL]; exact ⟨_, rfl, rfl⟩, Ev.refl _ _, Id.refl _ _⟩
 ·exact h.elim
theorem rdL_bytes {w : World} {F : Nat → Prop} : ∀ (l : List UInt8) (cs : List Value), rdL (rd w F .byte) l cs → cs = l.map fun x => Value.int .u8 x.toNat
 | [], cs, h => by simp only [rdL] at h; subst h; rfl
 | x :: l, cs, h => by
  obtain ⟨c1, c2, rfl, h1, h2⟩ := h
  simp only [rd] at h1
  subst h1
  rw [rdL_bytes l c2 h2]
  rfl
theorem freeze_idem {w : World} {g off n lo hi : Nat} {cur : Array Value} {T : Nat} (hg : w.heap[g]? = some (.cells cur T (lo, hi))) (h1 : lo ≤ off) (h2 : off + n ≤ hi) (h0 : n ≠ 0) : w.freeze ⟨g, off, none⟩ n = w := by
 obtain ⟨heap, tape, drawn, os, output⟩ := w
 unfold World.freeze
 rw [if_neg h0]
 congr 1
 apply Array.ext_getElem?
 intro c
 rw [Array.getElem?_modify]
 split
 ·rename_i hc
  subst hc
  simp only at hg
  rw [hg]
  have h3 : (lo == hi) = false := by simp; omega
  simp only [Option.map_some, h3, Bool.false_eq_true, if_false, Nat.min_eq_left h1, Nat.max_eq_left h2]
 ·rfl
def C34 : Contract := fun args hp K => match args, hp with
 | [.pty 0 71], [.struct [.nilp, .nils]] => K (.str ByteArray.empty) [.struct [.nilp, .nils]]
 | [.pty 0 71], [.struct [.ptr 0 0, .own 1], .row mv 1 .byte xs] => (xs ≠ [] ∧ (xs : List UInt8).length ≤ maxLen) ∧ K (.str (bsOf xs)) [.struct [.ptr 0 0, .slf xs], .gone]
 | [.pty 0 71], [.struct [.ptr 0 0, .slf xs]] => (xs ≠ [] ∧ (xs : List UInt8).length ≤ maxLen) ∧ K (.str (bsOf xs)) [.struct [.ptr 0 0, .slf xs]]
 | _, _ => False
theorem s34 : Sound Tryd.prog 34 C34 := by
 intro args hp K h E vs hs hg hd
 unfold C34 at h
 split at h
 ·simp only [denL, den] at hd
  obtain ⟨v, r, rfl, ⟨hN, b, hb, rfl, hty⟩, rfl⟩ := hd
  obtain ⟨b', cur, T, fr, q1, q2, q3, q4⟩ := hs.ok 0 _ rfl
  rw [hb] at q1; cases q1
  rw [denC_cons rfl] at q4
  obtain ⟨v1, c2, q5, q6, q7⟩ := q4
  rw [denC_cons rfl] at q7
  obtain ⟨v2, c3, rfl, q8, q9⟩ := q7
  simp only [den, denC] at q6 q8 q9
  subst q6 q8 q9
  have hcell : E.w.cell? ⟨b, 1, none⟩ = some (.slice none 0 0) := by
   have : cur[1]? = some (.slice none 0 0) := by rw [← Array.getElem?_toList, q5]; rfl
   simp [World.cell?, q2, this]
  refine (bld_str0 b E.w hcell).mono ?_
  rintro e w' ⟨rfl, rfl⟩
  have hc := Chg.drew E.w
  obtain ⟨h1, h2⟩ := hs.same hc
  exact ⟨_, _, { E with w := E.w.drew }, _, rfl, rfl, h, h1, by simp only [den]; exact ⟨rfl, by decide⟩, ⟨hc.os, hc.tape, hc.output, hc.size, fun b hb _ => hc.keep b hb (fun h => h), fun b hb => .inl hb, fun _ h => h, fun _ h => .inl h, rfl⟩, Id.refl _ _⟩
 ·rename_i mv xs
  obtain ⟨⟨hx0, hxl⟩, h⟩ := h
  simp only [denL, den] at hd
  obtain ⟨v, r, rfl, ⟨hN, b, hb, rfl, hty⟩, rfl⟩ := hd
  obtain ⟨b', cur, T, fr, q1, q2, q3, q4⟩ := hs.ok 0 _ rfl
  rw [hb] at q1; cases q1
  have q4' := q4
  rw [denC_cons rfl] at q4
  obtain ⟨v1, c2, q5, q6, q7⟩ := q4
  rw [denC_cons rfl] at q7
  obtain ⟨v2, c3, rfl, q8, q9⟩ := q7
  simp only [den, denC] at q6 q8 q9
  subst q9
  obtain ⟨_, b2, hb2, rfl⟩ := q6
  rw [hb] at hb2; cases hb2
  obtain ⟨hN1, rfl, _⟩ := q8
  rcases hs.ok 1 _ rfl with ⟨_, _, hz⟩ | ⟨g, off, cap, rcur, T', rfr, cs, r1, r2, r3, r4, r5, r6, r7, r8, r9, r10⟩
  ·exact absurd hz hx0
  ·obtain rfl := r4.2 rfl
   have hcs := rdL_bytes xs cs r10
   subst hcs
   simp only [Ty.size, Nat.mul_one] at r9
   have hcell : E.w.cell? ⟨b, 1, none⟩ = some (.slice (some ⟨g, off, none⟩) xs.length cap) := by
    have : cur[1]? = some (E.ρ 1).val := by rw [← Array.getElem?_toList, q5]; rfl
    simp [World.cell?, q2, this, r1]
   refine (bld_str1 b g off cap xs rcur rfr E.w hx0 hcell r3 r5 r6 r9).mono ?_
   rintro e w' ⟨rfl, rfl⟩
   have hgb : g ≠ b := by
    intro e
    subst e
    have := hs.dist 0 1 _ _ g rfl rfl rfl rfl hb r2
    cases this
   have hl0 : xs.length ≠ 0 := by simpa using hx0
   have hlive : ∀ c, Lv [.struct [.ptr 0 0, .own 1], .row mv 1 .byte xs] E c → c = b ∨ c = g := by
    rintro c ⟨i, sb, hi, _, hc⟩
    match i, hi with
    | 0, hi => cases hi; rw [hb] at hc; cases hc; exact .inl rfl
    | 1, hi => cases hi; rw [r2] at hc; cases hc; exact .inr rfl
   have hkeep : ∀ c, c ≠ g → (E.w.drew.freeze ⟨g, off, none⟩ xs.length).heap[c]? = E.w.heap[c]? := by
    intro c hc
    unfold World.freeze
    rw [if_neg hl0]
    show (E.w.heap.modify g _)[c]? = _
    rw [Array.getElem?_modify, if_neg (fun h => hc h.symm)]
   obtain ⟨lo, hi⟩ := rfr
   have hnew : ∃ lo' hi', (E.w.drew.freeze ⟨g, off, none⟩ xs.length).heap[g]? = some (.cells rcur 5 (lo', hi')) ∧ lo' ≤ off ∧ off + xs.length ≤ hi' := by
    unfold World.freeze
    rw [if_neg hl0]
    refine ⟨if lo == hi then off else min lo off, if lo == hi then off + xs.length else max hi (off + xs.length), ?_, ?_, ?_⟩
    ·show (E.w.heap.modify g _)[g]? = _
     rw [Array.getElem?_modify, if_pos rfl, r3]
     simp only [Option.map_some]
     by_cases hlh : (lo == hi) = true
     ·simp [hlh]
     ·simp [hlh]
    ·split <;> omega
    ·split <;> omega
   obtain ⟨lo', hi', n1, n2, n3⟩ := hnew
   have hsize : (E.w.drew.freeze ⟨g, off, none⟩ xs.length).heap.size = E.w.heap.size := by
    unfold World.freeze
    rw [if_neg hl0]
    show (E.w.heap.modify g _).size = E.w.heap.size
    rw [Array.size_modify]
   have hos : (E.w.drew.freeze ⟨g, off, none⟩ xs.length).os = E.w.os ∧ (E.w.drew.freeze ⟨g, off, none⟩ xs.length).tape = E.w.tape ∧ (E.w.drew.freeze ⟨g, off, none⟩ xs.length).output = E.w.output := by
    unfold World.freeze
    rw [if_neg hl0]
    exact ⟨rfl, rfl, rfl⟩
   generalize hw : E.w.drew.freeze ⟨g, off, none⟩ xs.length = W at *
   have hLg : Lv [.struct [.ptr 0 0, .own 1], .row mv 1 .byte xs] E g := ⟨1, _, rfl, rfl, r2⟩
   have hLb : Lv [.struct [.ptr 0 0, .own 1], .row mv 1 .byte xs] E b := ⟨0, _, rfl, rfl, hb⟩
   have hlv' : ∀ c, Lv [.struct [.ptr 0 0, .slf xs], .gone] { E with w := W, Fz := fun c => E.Fz c ∨ c = g } c → c = b := by
    rintro c ⟨i, sb, hi, hl, hc⟩
    match i, hi with
    | 0, hi => cases hi; rw [show (E.ρ 0).blk = some b from hb] at hc; cases hc; rfl
    | 1, hi => cases hi; simp [SB.live] at hl
   refine ⟨_, _, { E with w := W, Fz := fun c => E.Fz c ∨ c = g }, _, rfl, rfl, h, ⟨hs.n, ?_, ?_, ?_, ?_⟩, by simp only [den]; exact ⟨rfl, by rw [bsOf_size]; exact hxl⟩, ⟨hos.1, hos.2.1, hos.2.2, by rw [hsize]; exact Nat.le_refl _, ?_, ?_, fun _ h => .inl h, ?_, rfl⟩, ⟨Nat.le_refl _, ?_⟩⟩
   ·intro i sb hi
    match i, hi with
    | 0, hi =>
     cases hi
     refine ⟨b, cur, T, fr, hb, (hkeep b (fun h => hgb h.symm)).trans q2, q3, ?_⟩
     rw [q5, denC_cons rfl]
     refine ⟨_, _, rfl, by simp only [den]; exact ⟨hN, b, hb, rfl⟩, ?_⟩
     rw [denC_cons rfl]
     refine ⟨_, _, rfl, ?_, by simp only [denC]⟩
     simp only [den]
     exact ⟨g, cap, rcur, (lo', hi', off), r1, .inr rfl, n1, ⟨n2, n3⟩, r5, r6, r9⟩
    | 1, hi => cases hi; trivial
   ·intro i j si sj c hi hj hli hlj hci hcj
    match i, j, hi, hj with
    | 0, 0, _, _ => rfl
    | 1, _, hi, _ => cases hi; simp [SB.live] at hli
    | 0, 1, _, hj => cases hj; simp [SB.live] at hlj
   ·intro c hc
    obtain rfl := hlv' c hc
    have := hs.own c hLb
    refine ⟨by show c < W.heap.size; rw [hsize]; exact this.1, fun h => ?_, this.2.2⟩
    rcases h with h | h
    ·exact this.2.1 h
    ·exact hgb h.symm
   ·intro c hc
    show c < W.heap.size
    rw [hsize]
    rcases hc with (hc | hc) | hc
    ·exact hs.old c (.inl hc)
    ·subst hc; exact (hs.own _ hLg).1
    ·exact hs.old c (.inr hc)
   ·intro c hc hl
    exact hkeep c (fun e => hl (e ▸ hLg))
   ·intro c hc
    obtain rfl := hlv' c hc
    exact .inl hLb
   ·rintro c (hc | hc)
    ·exact .inl hc
    ·subst hc; exact .inr (.inl hLg)
   ·intro i sb hi hsb
    match i, hsb with
    | 0, hsb => cases hsb; rfl
    | 1, hsb => cases hsb; trivial
 ·rename_i xs
  obtain ⟨⟨hx0, hxl⟩, h⟩ := h
  simp only [denL, den] at hd
  obtain ⟨v, r, rfl, ⟨hN, b, hb, rfl, hty⟩, rfl⟩ := hd
  obtain ⟨b', cur, T, fr, q1, q2, q3, q4⟩ := hs.ok 0 _ rfl
  rw [hb] at q1; cases q1
  rw [denC_cons rfl] at q4
  obtain ⟨v1, c2, q5, q6, q7⟩ := q4
  rw [denC_cons rfl] at q7
  obtain ⟨v2, c3, rfl, q8, q9⟩ := q7
  simp only [den] at q8
  obtain ⟨g, cap, rcur, ⟨lo, hi, off⟩, rfl, r2, r3, ⟨r4, r5⟩, r6, r7, r9⟩ := q8
  have hcell : E.w.cell? ⟨b, 1, none⟩ = some (.slice (some ⟨g, off, none⟩) xs.length cap) := by
   have : cur[1]? = some (.slice (some ⟨g, off, none⟩) xs.length cap) := by rw [← Array.getElem?_toList, q5]; rfl
   simp [World.cell?, q2, this]
  refine (bld_str1 b g off cap xs rcur _ E.w hx0 hcell r3 r6 r7 r9).mono ?_
  rintro e w' ⟨rfl, rfl⟩
  have hl0 : xs.length ≠ 0 := by simpa using hx0
  have hw : E.w.drew.freeze ⟨g, off, none⟩ xs.length = E.w.drew := freeze_idem (w := E.w.drew) r3 r4 r5 hl0
  rw [hw]
  have hc := Chg.drew E.w
  obtain ⟨h1, h2⟩ := hs.same hc
  exact ⟨_, _, { E with w := E.w.drew }, _, rfl, rfl, h, h1, by simp only [den]; exact ⟨rfl, by rw [bsOf_size]; exact hxl⟩, ⟨hc.os, hc.tape, hc.output, hc.size, fun b hb _ => hc.keep b hb (fun h => h), fun b hb => .inl hb, fun _ h => h, fun _ h => .inl h, rfl⟩, Id.refl _ _⟩
 ·exact h.elim
end Go.V
namespace Go.V
open Go.Proofs
set_option maxRecDepth 100000
set_option maxHeartbeats 2000000
set_option linter.unusedSimpArgs false
set_option linter.unnecessarySimpa false
set_option linter.unusedVariables false
def C63 : Contract := fun args hp K => match args, hp with
 | [.pty 0 71, .int .u8 c], [.struct [.nilp, .nils]] => K .nili [.struct [.ptr 0 0, .own 1], .row true 1 .byte [UInt8.ofNat c.toNat]]
 | [.pty 0 71, .int .u8 c], [.struct [.ptr 0 0, .own 1], .row false 1 .byte xs] => (xs : List UInt8).length ≤ 10000000 ∧ K .nili [.struct [.ptr 0 0, .own 1], .row true 1 .byte (xs ++ [UInt8.ofNat c.toNat])]
 | _, _ => False
def C30 : Contract := fun args hp K => match args, hp with
 | [.pty 0 71, .str s], [.struct [.nilp, .nils]] => s.size ≤ 10000000 ∧ K (.tup [.int .i64 s.size, .nili]) [.struct [.ptr 0 0, .own 1], .row true 1 .byte s.data.toList]
 | [.pty 0 71, .str s], [.struct [.ptr 0 0, .own 1], .row false 1 .byte xs] => ((xs : List UInt8).length ≤ 10000000 ∧ s.size ≤ 10000000) ∧ K (.tup [.int .i64 s.size, .nili]) [.struct [.ptr 0 0, .own 1], .row true 1 .byte (xs ++ s.data.toList)]
 | _, _ => False
attribute [local irreducible] rc
theorem s63 : Sound Tryd.prog 63 C63 := by
 refine sound_of_okF ok63 (.cons s67 ⟨_, Tryd.func67, rfl, by decide⟩ .nil) ?_
 intro args hp K h
 unfold C63 at h
 split at h
 ·rename_i c
  refine ⟨by simp, [], ?_⟩
  simp (maxSteps:=9^9) only [a63, r63, C67, go_sem, Int.reduceLT, Int.reduceLE, Int.reduceEq, Int.reduceNe, Int.reduceAdd, Int.reduceSub, Int.reduceMul, Int.reduceToNat, Int.reduceNeg, Nat.reduceEqDiff, Nat.reduceLeDiff, Nat.reduceSub, Nat.reduceMul, Nat.reduceLT, Nat.reduceBEq, Nat.reduceAdd]
  exact h
 ·rename_i c xs
  obtain ⟨hl, h⟩ := h
  refine ⟨by simp, [], ?_⟩
  simp (maxSteps:=9^9) only [a63, r63, C67, go_sem, Int.reduceLT, Int.reduceLE, Int.reduceEq, Int.reduceNe, Int.reduceAdd, Int.reduceSub, Int.reduceMul, Int.reduceToNat, Int.reduceNeg, Nat.reduceEqDiff, Nat.reduceLeDiff, Nat.reduceSub, Nat.reduceMul, Nat.reduceLT, Nat.reduceBEq, Nat.reduceAdd]
  exact ⟨fun _ => by omega, fun _ => h⟩
 ·exact h.elim
theorem s30 : Sound Tryd.prog 30 C30 := by
 refine sound_of_okF ok30 (.cons s67 ⟨_, Tryd.func67, rfl, by decide⟩ .nil) ?_
 intro args hp K h
 unfold C30 at h
 split at h
 ·rename_i s
  obtain ⟨hl, h⟩ := h
  refine ⟨by simp, [], ?_⟩
  simp (maxSteps:=9^9) only [a30, r30, C67, go_sem, Int.reduceLT, Int.reduceLE, Int.reduceEq, Int.reduceNe, Int.reduceAdd, Int.reduceSub, Int.reduceMul, Int.reduceToNat, Int.reduceNeg, Nat.reduceEqDiff, Nat.reduceLeDiff, Nat.reduceSub, Nat.reduceMul, Nat.reduceLT, Nat.reduceBEq, Nat.reduceAdd]
  have e : s.data.toList.length = s.size := Array.length_toList
  rw [e]
  refine ⟨fun _ => by omega, fun _ _ m hm => ?_⟩
  subst hm
  exact h
 ·rename_i s xs
  obtain ⟨⟨hl, hl2⟩, h⟩ := h
  refine ⟨by simp, [], ?_⟩
  simp (maxSteps:=9^9) only [a30, r30, C67, go_sem, Int.reduceLT, Int.reduceLE, Int.reduceEq, Int.reduceNe, Int.reduceAdd, Int.reduceSub, Int.reduceMul, Int.reduceToNat, Int.reduceNeg, Nat.reduceEqDiff, Nat.reduceLeDiff, Nat.reduceSub, Nat.reduceMul, Nat.reduceLT, Nat.reduceBEq, Nat.reduceAdd]
  have e : s.data.toList.length = s.size := Array.length_toList
  rw [e]
  refine ⟨fun _ _ => by omega, fun _ _ m hm => ?_⟩
  subst hm
  exact h
 ·exact h.elim
end Go.V
namespace Go.V
open Go.Proofs
set_option maxRecDepth 100000
set_option linter.unusedSimpArgs false
set_option linter.unnecessarySimpa false
set_option linter.unusedVariables false
def keyOk (s : ByteArray) : Bool := decide (s ≠ ByteArray.empty) && decide (s.size ≤ 40)
def C37 : Contract := fun args hp K => match args, hp with
 | [.str s], [] => K (.bool (keyOk s)) []
 | _, _ => False
theorem s37 : Sound Tryd.prog 37 C37 := by
 refine sound_of_okF ok37 (Γ := []) (fun f C h => by simp [lkC] at h) ?_
 intro args hp K h
 unfold C37 at h
 split at h
 ·rename_i s
  refine ⟨by simp, [], ?_⟩
  simp (maxSteps:=9^9) only [a37, r37, go_sem, Int.reduceLT, Int.reduceLE, Int.reduceEq, Int.reduceNe, Int.reduceAdd, Int.reduceSub, Int.reduceMul, Int.reduceToNat, Int.reduceNeg, Nat.reduceEqDiff, Nat.reduceLeDiff, Nat.reduceSub, Nat.reduceMul, Nat.reduceLT, Nat.reduceBEq, Nat.reduceAdd]
  intro c hc
  refine sw_intro (fun hc1 => ?_) (fun hc1 => ?_)
  ·intro _ m hm c' hc'
   have e : keyOk s = c' := by simp [hc1] at hc; simp [keyOk, hc, hc', hm]; omega
   rw [← e]; exact h
  ·have e : keyOk s = false := by simp [hc1] at hc; simp [keyOk, hc]
   rw [← e]; exact h
 ·exact h.elim
end Go.V
namespace Go.V
open Go.Proofs
set_option maxRecDepth 100000
set_option linter.unusedSimpArgs false
set_option linter.unnecessarySimpa false
set_option linter.unusedVariables false
abbrev EvT : Ty := .pair (.int .i64) (.int .i64)
def C39 : Contract := fun args hp K => match args, hp with
 | [.str s], [] => K (.bool (keyOk s)) []
 | _, _ => False
theorem keyOk_eq (s : ByteArray) : keyOk s = (decide (1 ≤ s.size) && decide (s.size ≤ 40)) := by
 unfold keyOk
 congr 1
 apply decide_eq_decide.2
 constructor
 ·intro h
  rcases Nat.eq_zero_or_pos s.size with h0 | h0
  ·exfalso; apply h
   have : s.data = #[] := Array.eq_empty_of_size_eq_zero h0
   cases s; simp at this; subst this; rfl
  ·exact h0
 ·rintro h rfl
  have h' : 1 ≤ 0 := h
  omega
theorem s39 : Sound Tryd.prog 39 C39 := by
 refine sound_of_okF ok39 .nil ?_
 intro args hp K h
 unfold C39 at h
 split at h
 ·rename_i s
  refine ⟨by simp, [], ?_⟩
  simp (maxSteps:=9^9) only [a39, r39, go_sem, Int.reduceLT, Int.reduceLE, Int.reduceEq, Int.reduceNe, Int.reduceAdd, Int.reduceSub, Int.reduceMul, Int.reduceToNat, Int.reduceNeg, Nat.reduceEqDiff, Nat.reduceLeDiff, Nat.reduceSub, Nat.reduceMul, Nat.reduceLT, Nat.reduceBEq, Nat.reduceAdd]
  intro _ n hn c hc
  refine sw_intro (fun hc1 => ?_) (fun hc1 => ?_)
  ·intro _ m hm c' hc'
   have h1 : 1 ≤ s.size := by simp [hc1, hn] at hc; omega
   have e : keyOk s = c' := by rw [keyOk_eq, hc', hm]; simp [h1]; omega
   rw [← e]; exact h
  ·have e : keyOk s = false := by
    have h1 : ¬ 1 ≤ s.size := by simp [hc1, hn] at hc; omega
    rw [keyOk_eq]; simp [h1]
   rw [← e]; exact h
 ·exact h.elim
end Go.V
namespace Go.V
open Go.Proofs
set_option maxRecDepth 100000
set_option maxHeartbeats 8000000
set_option linter.unusedSimpArgs false
set_option linter.unnecessarySimpa false
set_option linter.unusedVariables false
/-! ### programs -/
abbrev WdT : Ty := .pair .str (.int .i64)
@[go_sem] theorem flat_wd : Ty.flat (.pair .str (.int .i64)) = true := rfl
@[go_sem] theorem drpF {l : List SV} {n : Nat} : drpB false l n = none := rfl
def opT : List (ByteArray × Int) := [(⟨#[104, 97, 108, 116]⟩, 0), (⟨#[112, 117, 115, 104]⟩, 1), (⟨#[108, 111, 97, 100]⟩, 2), (⟨#[115, 116, 111, 114, 101]⟩, 2), (⟨#[97, 114, 103]⟩, 3), (⟨#[107, 105, 110, 100]⟩, 0), (⟨#[97, 100, 100]⟩, 0), (⟨#[115, 117, 98]⟩, 0), (⟨#[109, 117, 108]⟩, 0), (⟨#[108, 101, 115, 115]⟩, 0), (⟨#[101, 113, 117, 97, 108]⟩, 0), (⟨#[110, 111, 116]⟩, 0), (⟨#[100, 117, 112]⟩, 0), (⟨#[100, 114, 111, 112]⟩, 0), (⟨#[115, 119, 97, 112]⟩, 0), (⟨#[106, 117, 109, 112]⟩, 4), (⟨#[106, 117, 109, 112, 122]⟩, 4), (⟨#[115, 101, 110, 100]⟩, 5), (⟨#[114, 101, 112, 108, 121]⟩, 0), (⟨#[114, 101, 109, 105, 110, 100]⟩, 5), (⟨#[99, 97, 110, 99, 101, 108]⟩, 5), (⟨#[102, 97, 105, 108]⟩, 0), (⟨#[110, 111, 119]⟩, 0), (⟨#[115, 101, 114, 105, 97, 108]⟩, 0)]
def opK (op : Int) : Int := (elt WdT opT op.toNat).2
def C32 : Contract := fun args hp K => match args, hp with
 | [.int .i64 op], [] => (¬ (0 ≤ op ∧ op < 24) → K (.tup [.str ByteArray.empty, .int .i64 0, .bool false]) []) ∧ ((0 ≤ op ∧ op < 24) → K (.tup [.str (elt WdT opT op.toNat).1, .int .i64 (opK op), .bool true]) [])
 | _, _ => False
theorem s32 : Sound Tryd.prog 32 C32 := by
 refine sound_of_okF ok32 .nil ?_
 intro args hp K h
 unfold C32 at h
 split at h
 ·rename_i op
  refine ⟨by simp, [], ?_⟩
  simp (maxSteps:=9^9) only [a32, r32, cond_true, go_sem, Int.reduceLT, Int.reduceLE, Int.reduceEq, Int.reduceNe, Int.reduceAdd, Int.reduceSub, Int.reduceMul, Int.reduceToNat, Int.reduceNeg, Nat.reduceEqDiff, Nat.reduceLeDiff, Nat.reduceSub, Nat.reduceMul, Nat.reduceLT, Nat.reduceBEq, Nat.reduceAdd]
  rintro c rfl
  refine sw_intro (fun c1 => ?_) (fun c1 => ?_) <;> simp only [decide_eq_true_eq, decide_eq_false_iff_not] at c1
  ·exact h.1 (by omega)
  rintro c rfl
  refine sw_intro (fun c2 => ?_) (fun c2 => ?_) <;> simp only [decide_eq_true_eq, decide_eq_false_iff_not] at c2
  ·exact h.1 (by omega)
  have h2 := h.2 ⟨by omega, by omega⟩
  exact nd_intro ⟨by omega, by omega⟩ (nd_intro (by omega) (nd_intro ⟨by omega, by omega⟩ (nd_intro (by omega) h2)))
 ·exact h.elim
def belowI (kind : Int) (n c : Nat) : Int := if kind = 2 then 8 else if kind = 3 then 4 else if kind = 4 then c + 1 else if kind = 5 then n else 1
def C38 : Contract := fun args hp K => match args, hp with
 | [.agg [x, y], .int .i64 k], [] => onL .str 16 x fun names => onL EvT 16 y fun code => (names : List ByteArray).length ≤ 1000 ∧ (code : List EvT.den).length ≤ 1000 ∧ K (.int .i64 (belowI k names.length code.length)) []
 | _, _ => False
theorem s38 : Sound Tryd.prog 38 C38 := by
 refine sound_of_okF ok38 .nil ?_
 intro args hp K h
 unfold C38 at h
 split at h
 ·rename_i x y k
  have hmx := maxLen_val
  rcases h with ⟨rfl, ⟨rfl, hn, hc, h⟩ | ⟨q, code, rfl, hn, hc, h⟩⟩ | ⟨p, names, rfl, ⟨rfl, hn, hc, h⟩ | ⟨q, code, rfl, hn, hc, h⟩⟩
  ·refine ⟨by simp, [], ?_⟩
   simp (maxSteps:=9^9) only [a38, r38, go_sem, Int.reduceLT, Int.reduceLE, Int.reduceEq, Int.reduceNe, Int.reduceAdd, Int.reduceSub, Int.reduceMul, Int.reduceToNat, Int.reduceNeg, Nat.reduceEqDiff, Nat.reduceLeDiff, Nat.reduceSub, Nat.reduceMul, Nat.reduceLT, Nat.reduceBEq, Nat.reduceAdd]
   unfold belowI at h
   rintro c rfl
   refine sw_intro (fun c1 => ?_) (fun c1 => ?_) <;> simp only [decide_eq_true_eq, decide_eq_false_iff_not] at c1
   ·rw [if_pos c1] at h; exact h
   rw [if_neg c1] at h
   rintro c rfl
   refine sw_intro (fun c1 => ?_) (fun c1 => ?_) <;> simp only [decide_eq_true_eq, decide_eq_false_iff_not] at c1
   ·rw [if_pos c1] at h; exact h
   rw [if_neg c1] at h
   rintro c rfl
   refine sw_intro (fun c1 => ?_) (fun c1 => ?_) <;> simp only [decide_eq_true_eq, decide_eq_false_iff_not] at c1
   ·rw [if_pos c1] at h
    rintro _ _ m hm
    rw [w64 (by omega)] at hm
    subst hm
    exact h
   rw [if_neg c1] at h
   rintro c rfl
   refine sw_intro (fun c1 => ?_) (fun c1 => ?_) <;> simp only [decide_eq_true_eq, decide_eq_false_iff_not] at c1
   ·rw [if_pos c1] at h
    skip
    exact h
   rw [if_neg c1] at h
   exact h
  ·refine ⟨by simp, [], ?_⟩
   simp (maxSteps:=9^9) only [a38, r38, go_sem, Int.reduceLT, Int.reduceLE, Int.reduceEq, Int.reduceNe, Int.reduceAdd, Int.reduceSub, Int.reduceMul, Int.reduceToNat, Int.reduceNeg, Nat.reduceEqDiff, Nat.reduceLeDiff, Nat.reduceSub, Nat.reduceMul, Nat.reduceLT, Nat.reduceBEq, Nat.reduceAdd]
   unfold belowI at h
   rintro c rfl
   refine sw_intro (fun c1 => ?_) (fun c1 => ?_) <;> simp only [decide_eq_true_eq, decide_eq_false_iff_not] at c1
   ·rw [if_pos c1] at h; exact h
   rw [if_neg c1] at h
   rintro c rfl
   refine sw_intro (fun c1 => ?_) (fun c1 => ?_) <;> simp only [decide_eq_true_eq, decide_eq_false_iff_not] at c1
   ·rw [if_pos c1] at h; exact h
   rw [if_neg c1] at h
   rintro c rfl
   refine sw_intro (fun c1 => ?_) (fun c1 => ?_) <;> simp only [decide_eq_true_eq, decide_eq_false_iff_not] at c1
   ·rw [if_pos c1] at h
    rintro _ _ m rfl _ _ m1 hm1
    rw [w64 (by omega)] at hm1
    subst hm1
    exact h
   rw [if_neg c1] at h
   rintro c rfl
   refine sw_intro (fun c1 => ?_) (fun c1 => ?_) <;> simp only [decide_eq_true_eq, decide_eq_false_iff_not] at c1
   ·rw [if_pos c1] at h
    skip
    exact h
   rw [if_neg c1] at h
   exact h
  ·refine ⟨by simp, [], ?_⟩
   simp (maxSteps:=9^9) only [a38, r38, go_sem, Int.reduceLT, Int.reduceLE, Int.reduceEq, Int.reduceNe, Int.reduceAdd, Int.reduceSub, Int.reduceMul, Int.reduceToNat, Int.reduceNeg, Nat.reduceEqDiff, Nat.reduceLeDiff, Nat.reduceSub, Nat.reduceMul, Nat.reduceLT, Nat.reduceBEq, Nat.reduceAdd]
   unfold belowI at h
   rintro c rfl
   refine sw_intro (fun c1 => ?_) (fun c1 => ?_) <;> simp only [decide_eq_true_eq, decide_eq_false_iff_not] at c1
   ·rw [if_pos c1] at h; exact h
   rw [if_neg c1] at h
   rintro c rfl
   refine sw_intro (fun c1 => ?_) (fun c1 => ?_) <;> simp only [decide_eq_true_eq, decide_eq_false_iff_not] at c1
   ·rw [if_pos c1] at h; exact h
   rw [if_neg c1] at h
   rintro c rfl
   refine sw_intro (fun c1 => ?_) (fun c1 => ?_) <;> simp only [decide_eq_true_eq, decide_eq_false_iff_not] at c1
   ·rw [if_pos c1] at h
    rintro _ _ m hm
    rw [w64 (by omega)] at hm
    subst hm
    exact h
   rw [if_neg c1] at h
   rintro c rfl
   refine sw_intro (fun c1 => ?_) (fun c1 => ?_) <;> simp only [decide_eq_true_eq, decide_eq_false_iff_not] at c1
   ·rw [if_pos c1] at h
    rintro _ _ m rfl
    exact h
   rw [if_neg c1] at h
   exact h
  ·refine ⟨by simp, [], ?_⟩
   simp (maxSteps:=9^9) only [a38, r38, go_sem, Int.reduceLT, Int.reduceLE, Int.reduceEq, Int.reduceNe, Int.reduceAdd, Int.reduceSub, Int.reduceMul, Int.reduceToNat, Int.reduceNeg, Nat.reduceEqDiff, Nat.reduceLeDiff, Nat.reduceSub, Nat.reduceMul, Nat.reduceLT, Nat.reduceBEq, Nat.reduceAdd]
   unfold belowI at h
   rintro c rfl
   refine sw_intro (fun c1 => ?_) (fun c1 => ?_) <;> simp only [decide_eq_true_eq, decide_eq_false_iff_not] at c1
   ·rw [if_pos c1] at h; exact h
   rw [if_neg c1] at h
   rintro c rfl
   refine sw_intro (fun c1 => ?_) (fun c1 => ?_) <;> simp only [decide_eq_true_eq, decide_eq_false_iff_not] at c1
   ·rw [if_pos c1] at h; exact h
   rw [if_neg c1] at h
   rintro c rfl
   refine sw_intro (fun c1 => ?_) (fun c1 => ?_) <;> simp only [decide_eq_true_eq, decide_eq_false_iff_not] at c1
   ·rw [if_pos c1] at h
    rintro _ _ m rfl _ _ m1 hm1
    rw [w64 (by omega)] at hm1
    subst hm1
    exact h
   rw [if_neg c1] at h
   rintro c rfl
   refine sw_intro (fun c1 => ?_) (fun c1 => ?_) <;> simp only [decide_eq_true_eq, decide_eq_false_iff_not] at c1
   ·rw [if_pos c1] at h
    rintro _ _ m rfl
    exact h
   rw [if_neg c1] at h
   exact h
 ·exact h.elim
end Go.V
namespace Go.V
open Go.Proofs
set_option maxRecDepth 100000
set_option maxHeartbeats 8000000
set_option linter.unusedSimpArgs false
set_option linter.unnecessarySimpa false
set_option linter.unusedVariables false
def insOk (n c : Nat) (x : EvT.den) : Bool := (decide (0 ≤ x.1) && decide (x.1 < 24)) && (decide (opK x.1 = 1) || (decide (0 ≤ x.2) && decide (x.2 < belowI (opK x.1) n c)))
def formP (names : List ByteArray) (code : List EvT.den) : Bool := (decide (names.length ≤ 8) && decide (code.length ≤ 200)) && (names.all keyOk && code.all (insOk names.length code.length))
theorem formP_iff {names : List ByteArray} {code : List EvT.den} : formP names code = true ↔ (names.length ≤ 8 ∧ code.length ≤ 200) ∧ names.all keyOk = true ∧ code.all (insOk names.length code.length) = true := by
 simp [formP]
def C17 : Contract := fun args hp K => match args, hp with
 | [.agg [x, y]], [] => onL .str 16 x fun names => onL EvT 16 y fun code => K (.bool (formP names code)) []
 | _, _ => False
def L17 (x y : SV) (names : List ByteArray) (z : SV) : LoopAnn := { G := Nat, I := fun i => ⟨[(1, .ptr 0 0), (21, z), (22, .int .i64 names.length), (23, .int .i64 i)], [.struct [x, y]]⟩, R := fun _ i => i ≤ names.length ∧ (names.take i).all keyOk = true, μ := fun i => names.length - i }
theorem L17_I {x y names z} (i : Nat) : (L17 x y names z).I i = ⟨[(1, .ptr 0 0), (21, z), (22, .int .i64 names.length), (23, .int .i64 i)], [.struct [x, y]]⟩ := rfl
def M17 (x y : SV) (n : Nat) (code : List EvT.den) (z : SV) : LoopAnn := { G := Nat, I := fun i => ⟨[(1, .ptr 0 0), (32, z), (33, .int .i64 code.length), (34, .int .i64 i)], [.struct [x, y]]⟩, R := fun _ i => i ≤ code.length ∧ (code.take i).all (insOk n code.length) = true, μ := fun i => code.length - i }
theorem M17_I {x y n code z} (i : Nat) : (M17 x y n code z).I i = ⟨[(1, .ptr 0 0), (32, z), (33, .int .i64 code.length), (34, .int .i64 i)], [.struct [x, y]]⟩ := rfl
theorem s17 : Sound Tryd.prog 17 C17 := by
 refine sound_of_okF ok17 (.cons s37 (callable_of_okF ok37) (.cons s32 (callable_of_okF ok32) (.cons s38 (callable_of_okF ok38) .nil))) ?_
 intro args hp K h
 unfold C17 at h
 split at h
 ·rename_i x y
  have hmx := maxLen_val
  rcases h with ⟨rfl, ⟨rfl, h⟩ | ⟨q, code, rfl, h⟩⟩ | ⟨p, names, rfl, ⟨rfl, h⟩ | ⟨q, code, rfl, h⟩⟩
  ·refine ⟨by simp, [(1, L17 .nils .nils [] .nils), (2, M17 .nils .nils 0 [] .nils)], ?_⟩
   simp (maxSteps:=9^9) only [a17, r17, go_sem, Int.reduceLT, Int.reduceLE, Int.reduceEq, Int.reduceNe, Int.reduceAdd, Int.reduceSub, Int.reduceMul, Int.reduceToNat, Int.reduceNeg, Nat.reduceEqDiff, Nat.reduceLeDiff, Nat.reduceSub, Nat.reduceMul, Nat.reduceLT, Nat.reduceBEq, Nat.reduceAdd]
   have hf : ¬ ((([] : List ByteArray).length ≤ 8 ∧ ([] : List EvT.den).length ≤ 200) ∧ ([] : List ByteArray).all keyOk = true ∧ ([] : List EvT.den).all (insOk ([] : List ByteArray).length ([] : List EvT.den).length) = true) → K (.bool false) [] := fun hh => by rw [← formP_iff, Bool.not_eq_true] at hh; rw [hh] at h; exact h
   have c1 : ¬ (8 : Int) < (0 : Nat) := by omega
   have c2 : ¬ (200 : Int) < (0 : Nat) := by omega
   refine loop_intro (A := L17 .nils .nils [] .nils) (0 : Nat) ?_ ⟨Nat.zero_le _, rfl⟩ ?_
   ·simp (maxSteps:=9^9) only [L17_I, go_sem, Int.reduceLT, Int.reduceLE, Int.reduceEq, Int.reduceNe, Int.reduceAdd, Int.reduceSub, Int.reduceMul, Int.reduceToNat, Int.reduceNeg, Nat.reduceEqDiff, Nat.reduceLeDiff, Nat.reduceSub, Nat.reduceMul, Nat.reduceLT, Nat.reduceBEq, Nat.reduceAdd]
    rfl
   ·intro (i : Nat) (hi : i ≤ ([] : List ByteArray).length ∧ (([] : List ByteArray).take i).all keyOk = true)
    simp (maxSteps:=9^9) only [L17_I, C37, go_sem, Int.reduceLT, Int.reduceLE, Int.reduceEq, Int.reduceNe, Int.reduceAdd, Int.reduceSub, Int.reduceMul, Int.reduceToNat, Int.reduceNeg, Nat.reduceEqDiff, Nat.reduceLeDiff, Nat.reduceSub, Nat.reduceMul, Nat.reduceLT, Nat.reduceBEq, Nat.reduceAdd]
    rintro c rfl
    refine sw_intro (fun hc => ?_) (fun hc => ?_) <;> simp only [decide_eq_true_eq, decide_eq_false_iff_not] at hc
    ·exact absurd hc (by omega)
    ·have e : i = ([] : List ByteArray).length := by have := hi.1; simp only [List.length_nil] at this ⊢; omega
     have hk := hi.2
     clear e
     refine loop_intro (A := M17 .nils .nils 0 [] .nils) (0 : Nat) ?_ ⟨Nat.zero_le _, rfl⟩ ?_
     ·simp (maxSteps:=9^9) only [M17_I, go_sem, Int.reduceLT, Int.reduceLE, Int.reduceEq, Int.reduceNe, Int.reduceAdd, Int.reduceSub, Int.reduceMul, Int.reduceToNat, Int.reduceNeg, Nat.reduceEqDiff, Nat.reduceLeDiff, Nat.reduceSub, Nat.reduceMul, Nat.reduceLT, Nat.reduceBEq, Nat.reduceAdd]
      rfl
     ·intro (j : Nat) (hj : j ≤ ([] : List EvT.den).length ∧ (([] : List EvT.den).take j).all (insOk 0 ([] : List EvT.den).length) = true)
      simp (maxSteps:=9^9) only [M17_I, C32, C38, go_sem, Int.reduceLT, Int.reduceLE, Int.reduceEq, Int.reduceNe, Int.reduceAdd, Int.reduceSub, Int.reduceMul, Int.reduceToNat, Int.reduceNeg, Nat.reduceEqDiff, Nat.reduceLeDiff, Nat.reduceSub, Nat.reduceMul, Nat.reduceLT, Nat.reduceBEq, Nat.reduceAdd]
      rintro c rfl
      refine sw_intro (fun hd => ?_) (fun hd => ?_) <;> simp only [decide_eq_true_eq, decide_eq_false_iff_not] at hd
      ·exact absurd hd (by omega)
      ·have e2 : ([] : List EvT.den).length ≤ j := by simp only [List.length_nil]; omega
       rw [List.take_of_length_le e2] at hj
       rw [show formP [] [] = true from formP_iff.2 ⟨⟨by simp only [List.length_nil]; omega, by simp only [List.length_nil]; omega⟩, by simpa using hk, hj.2⟩] at h
       exact h
  ·refine ⟨by simp, [(1, L17 .nils (.sl q 16 EvT code) [] .nils), (2, M17 .nils (.sl q 16 EvT code) 0 code (.sl q 16 EvT code))], ?_⟩
   simp (maxSteps:=9^9) only [a17, r17, go_sem, Int.reduceLT, Int.reduceLE, Int.reduceEq, Int.reduceNe, Int.reduceAdd, Int.reduceSub, Int.reduceMul, Int.reduceToNat, Int.reduceNeg, Nat.reduceEqDiff, Nat.reduceLeDiff, Nat.reduceSub, Nat.reduceMul, Nat.reduceLT, Nat.reduceBEq, Nat.reduceAdd]
   have hf : ¬ ((([] : List ByteArray).length ≤ 8 ∧ (code : List EvT.den).length ≤ 200) ∧ ([] : List ByteArray).all keyOk = true ∧ (code : List EvT.den).all (insOk ([] : List ByteArray).length (code : List EvT.den).length) = true) → K (.bool false) [] := fun hh => by rw [← formP_iff, Bool.not_eq_true] at hh; rw [hh] at h; exact h
   have c1 : ¬ (8 : Int) < (0 : Nat) := by omega
   rintro hc1 hc2 m rfl c rfl
   refine sw_intro (fun c2 => ?_) (fun c2 => ?_) <;> simp only [decide_eq_true_eq, decide_eq_false_iff_not] at c2
   ·exact hf (fun hh => by have := hh.1.2; omega)
   refine loop_intro (A := L17 .nils (.sl q 16 EvT code) [] .nils) (0 : Nat) ?_ ⟨Nat.zero_le _, rfl⟩ ?_
   ·simp (maxSteps:=9^9) only [L17_I, go_sem, Int.reduceLT, Int.reduceLE, Int.reduceEq, Int.reduceNe, Int.reduceAdd, Int.reduceSub, Int.reduceMul, Int.reduceToNat, Int.reduceNeg, Nat.reduceEqDiff, Nat.reduceLeDiff, Nat.reduceSub, Nat.reduceMul, Nat.reduceLT, Nat.reduceBEq, Nat.reduceAdd]
    rfl
   ·intro (i : Nat) (hi : i ≤ ([] : List ByteArray).length ∧ (([] : List ByteArray).take i).all keyOk = true)
    simp (maxSteps:=9^9) only [L17_I, C37, go_sem, Int.reduceLT, Int.reduceLE, Int.reduceEq, Int.reduceNe, Int.reduceAdd, Int.reduceSub, Int.reduceMul, Int.reduceToNat, Int.reduceNeg, Nat.reduceEqDiff, Nat.reduceLeDiff, Nat.reduceSub, Nat.reduceMul, Nat.reduceLT, Nat.reduceBEq, Nat.reduceAdd]
    rintro c rfl
    refine sw_intro (fun hc => ?_) (fun hc => ?_) <;> simp only [decide_eq_true_eq, decide_eq_false_iff_not] at hc
    ·exact absurd hc (by omega)
    ·have e : i = ([] : List ByteArray).length := by have := hi.1; simp only [List.length_nil] at this ⊢; omega
     have hk := hi.2
     clear e
     rintro _ _ m rfl
     refine loop_intro (A := M17 .nils (.sl q 16 EvT code) 0 code (.sl q 16 EvT code)) (0 : Nat) ?_ ⟨Nat.zero_le _, rfl⟩ ?_
     ·simp (maxSteps:=9^9) only [M17_I, go_sem, Int.reduceLT, Int.reduceLE, Int.reduceEq, Int.reduceNe, Int.reduceAdd, Int.reduceSub, Int.reduceMul, Int.reduceToNat, Int.reduceNeg, Nat.reduceEqDiff, Nat.reduceLeDiff, Nat.reduceSub, Nat.reduceMul, Nat.reduceLT, Nat.reduceBEq, Nat.reduceAdd]
      rfl
     ·intro (j : Nat) (hj : j ≤ (code : List EvT.den).length ∧ ((code : List EvT.den).take j).all (insOk 0 (code : List EvT.den).length) = true)
      simp (maxSteps:=9^9) only [M17_I, C32, C38, go_sem, Int.reduceLT, Int.reduceLE, Int.reduceEq, Int.reduceNe, Int.reduceAdd, Int.reduceSub, Int.reduceMul, Int.reduceToNat, Int.reduceNeg, Nat.reduceEqDiff, Nat.reduceLeDiff, Nat.reduceSub, Nat.reduceMul, Nat.reduceLT, Nat.reduceBEq, Nat.reduceAdd]
      rintro c rfl
      refine sw_intro (fun hd => ?_) (fun hd => ?_) <;> simp only [decide_eq_true_eq, decide_eq_false_iff_not] at hd
      ·refine nd_intro hd ?_
       have hb : ¬ insOk 0 code.length (elt EvT code j) = true → K (.bool false) [] := fun hn => hf (fun hh => hn (List.all_eq_true.1 hh.2.2 _ (List.mem_of_getElem? (elt_get hd))))
       have hnx : insOk 0 code.length (elt EvT code j) = true → ∀ m, m = IntKind.i64.wrap ((j : Int) + 1) → lpE (M17 .nils (.sl q 16 EvT code) 0 code (.sl q 16 EvT code)) 0 [1, 32, 33, 34] (0 : Nat) j { fr := [(1, .ptr 0 0), (32, (.sl q 16 EvT code)), (33, .int .i64 code.length), (34, .int .i64 m)], hp := [.struct [.nils, (.sl q 16 EvT code)], .struct [.int .i64 (elt EvT code j).fst, .int .i64 (elt EvT code j).snd]] } := fun hk2 m hm => by
        rw [w64 (by omega)] at hm
        subst hm
        refine lpE_intro (A := M17 .nils (.sl q 16 EvT code) 0 code (.sl q 16 EvT code)) (j + 1) (by simp (maxSteps:=9^9) only [M17_I, go_sem, Int.reduceLT, Int.reduceLE, Int.reduceEq, Int.reduceNe, Int.reduceAdd, Int.reduceSub, Int.reduceMul, Int.reduceToNat, Int.reduceNeg, Nat.reduceEqDiff, Nat.reduceLeDiff, Nat.reduceSub, Nat.reduceMul, Nat.reduceLT, Nat.reduceBEq, Nat.reduceAdd]; rfl) ⟨by omega, ?_⟩ (by show code.length - (j + 1) < code.length - j; omega)
        have e3 := take_elt (t := EvT) hd
        show List.all (List.take (j + 1) (code : List EvT.den)) _ = true
        rw [← e3, List.all_append, hj.2]
        simpa using hk2
       simp only [insOk, Bool.and_eq_true, Bool.or_eq_true, decide_eq_true_eq] at hb hnx
       refine ⟨fun ho => hb (fun hh => ho hh.1), fun ho => ?_⟩
       rintro c rfl
       refine sw_intro (fun he => ?_) (fun he => ?_) <;> simp only [Bool.not_eq_true', Bool.not_eq_false', decide_eq_true_eq, decide_eq_false_iff_not] at he
       ·rintro c rfl
        refine sw_intro (fun hl => ?_) (fun hl => ?_) <;> simp only [decide_eq_true_eq, decide_eq_false_iff_not] at hl
        ·exact hb (fun hh => hh.2.elim he (fun h2 => absurd h2.1 (Int.not_le.2 hl)))
        refine ⟨by omega, ?_⟩
        rintro c rfl
        refine sw_intro (fun hg => ?_) (fun hg => ?_) <;> simp only [decide_eq_true_eq, decide_eq_false_iff_not] at hg
        ·exact hb (fun hh => hh.2.elim he (fun h2 => absurd h2.2 (Int.not_lt.2 hg)))
        intro _ _ m hm
        exact hnx ⟨ho, .inr ⟨Int.not_lt.1 hl, Int.not_le.1 hg⟩⟩ m hm
       ·intro _ _ m hm
        exact hnx ⟨ho, .inl he⟩ m hm
      ·have e2 : (code : List EvT.den).length ≤ j := by  omega
       rw [List.take_of_length_le e2] at hj
       rw [show formP [] code = true from formP_iff.2 ⟨⟨by simp only [List.length_nil]; omega, by  omega⟩, by simpa using hk, hj.2⟩] at h
       exact h
  ·refine ⟨by simp, [(1, L17 (.sl p 16 .str names) .nils names (.sl p 16 .str names)), (2, M17 (.sl p 16 .str names) .nils names.length [] .nils)], ?_⟩
   simp (maxSteps:=9^9) only [a17, r17, go_sem, Int.reduceLT, Int.reduceLE, Int.reduceEq, Int.reduceNe, Int.reduceAdd, Int.reduceSub, Int.reduceMul, Int.reduceToNat, Int.reduceNeg, Nat.reduceEqDiff, Nat.reduceLeDiff, Nat.reduceSub, Nat.reduceMul, Nat.reduceLT, Nat.reduceBEq, Nat.reduceAdd]
   have hf : ¬ (((names : List ByteArray).length ≤ 8 ∧ ([] : List EvT.den).length ≤ 200) ∧ (names : List ByteArray).all keyOk = true ∧ ([] : List EvT.den).all (insOk (names : List ByteArray).length ([] : List EvT.den).length) = true) → K (.bool false) [] := fun hh => by rw [← formP_iff, Bool.not_eq_true] at hh; rw [hh] at h; exact h
   rintro hn1 hn2 m rfl c rfl
   refine sw_intro (fun c1 => ?_) (fun c1 => ?_) <;> simp only [decide_eq_true_eq, decide_eq_false_iff_not] at c1
   ·exact hf (fun hh => by have := hh.1.1; omega)
   have c2 : ¬ (200 : Int) < (0 : Nat) := by omega
   rintro _ _ m rfl
   refine loop_intro (A := L17 (.sl p 16 .str names) .nils names (.sl p 16 .str names)) (0 : Nat) ?_ ⟨Nat.zero_le _, rfl⟩ ?_
   ·simp (maxSteps:=9^9) only [L17_I, go_sem, Int.reduceLT, Int.reduceLE, Int.reduceEq, Int.reduceNe, Int.reduceAdd, Int.reduceSub, Int.reduceMul, Int.reduceToNat, Int.reduceNeg, Nat.reduceEqDiff, Nat.reduceLeDiff, Nat.reduceSub, Nat.reduceMul, Nat.reduceLT, Nat.reduceBEq, Nat.reduceAdd]
    rfl
   ·intro (i : Nat) (hi : i ≤ (names : List ByteArray).length ∧ ((names : List ByteArray).take i).all keyOk = true)
    simp (maxSteps:=9^9) only [L17_I, C37, go_sem, Int.reduceLT, Int.reduceLE, Int.reduceEq, Int.reduceNe, Int.reduceAdd, Int.reduceSub, Int.reduceMul, Int.reduceToNat, Int.reduceNeg, Nat.reduceEqDiff, Nat.reduceLeDiff, Nat.reduceSub, Nat.reduceMul, Nat.reduceLT, Nat.reduceBEq, Nat.reduceAdd]
    rintro c rfl
    refine sw_intro (fun hc => ?_) (fun hc => ?_) <;> simp only [decide_eq_true_eq, decide_eq_false_iff_not] at hc
    ·refine nd_intro hc (sw_intro (fun hk => ?_) (fun hk => ?_))
     case refine_2 =>
      refine hf (fun hh => ?_)
      have hm := List.all_eq_true.1 hh.2.1 (elt .str names i) (List.mem_of_getElem? (elt_get hc))
      rw [hm] at hk
      simp at hk
     rintro _ _ m hm
     rw [w64 (by omega)] at hm
     subst hm
     refine lpE_intro (A := L17 (.sl p 16 .str names) .nils names (.sl p 16 .str names)) (i + 1) (by simp (maxSteps:=9^9) only [L17_I, go_sem, Int.reduceLT, Int.reduceLE, Int.reduceEq, Int.reduceNe, Int.reduceAdd, Int.reduceSub, Int.reduceMul, Int.reduceToNat, Int.reduceNeg, Nat.reduceEqDiff, Nat.reduceLeDiff, Nat.reduceSub, Nat.reduceMul, Nat.reduceLT, Nat.reduceBEq, Nat.reduceAdd]; rfl) ⟨by omega, ?_⟩ (by show (names : List ByteArray).length - (i + 1) < (names : List ByteArray).length - i; omega)
     have e3 := take_elt (t := .str) hc
     show List.all (List.take (i + 1) (names : List ByteArray)) _ = true
     rw [← e3, List.all_append, hi.2]
     simpa using hk
    ·have e : i = (names : List ByteArray).length := by have := hi.1;  omega
     have hk := hi.2
     subst e; simp only [List.take_length] at hk
     refine loop_intro (A := M17 (.sl p 16 .str names) .nils names.length [] .nils) (0 : Nat) ?_ ⟨Nat.zero_le _, rfl⟩ ?_
     ·simp (maxSteps:=9^9) only [M17_I, go_sem, Int.reduceLT, Int.reduceLE, Int.reduceEq, Int.reduceNe, Int.reduceAdd, Int.reduceSub, Int.reduceMul, Int.reduceToNat, Int.reduceNeg, Nat.reduceEqDiff, Nat.reduceLeDiff, Nat.reduceSub, Nat.reduceMul, Nat.reduceLT, Nat.reduceBEq, Nat.reduceAdd]
      rfl
     ·intro (j : Nat) (hj : j ≤ ([] : List EvT.den).length ∧ (([] : List EvT.den).take j).all (insOk names.length ([] : List EvT.den).length) = true)
      simp (maxSteps:=9^9) only [M17_I, C32, C38, go_sem, Int.reduceLT, Int.reduceLE, Int.reduceEq, Int.reduceNe, Int.reduceAdd, Int.reduceSub, Int.reduceMul, Int.reduceToNat, Int.reduceNeg, Nat.reduceEqDiff, Nat.reduceLeDiff, Nat.reduceSub, Nat.reduceMul, Nat.reduceLT, Nat.reduceBEq, Nat.reduceAdd]
      rintro c rfl
      refine sw_intro (fun hd => ?_) (fun hd => ?_) <;> simp only [decide_eq_true_eq, decide_eq_false_iff_not] at hd
      ·exact absurd hd (by omega)
      ·have e2 : ([] : List EvT.den).length ≤ j := by simp only [List.length_nil]; omega
       rw [List.take_of_length_le e2] at hj
       rw [show formP names [] = true from formP_iff.2 ⟨⟨by  omega, by simp only [List.length_nil]; omega⟩, by simpa using hk, hj.2⟩] at h
       exact h
  ·refine ⟨by simp, [(1, L17 (.sl p 16 .str names) (.sl q 16 EvT code) names (.sl p 16 .str names)), (2, M17 (.sl p 16 .str names) (.sl q 16 EvT code) names.length code (.sl q 16 EvT code))], ?_⟩
   simp (maxSteps:=9^9) only [a17, r17, go_sem, Int.reduceLT, Int.reduceLE, Int.reduceEq, Int.reduceNe, Int.reduceAdd, Int.reduceSub, Int.reduceMul, Int.reduceToNat, Int.reduceNeg, Nat.reduceEqDiff, Nat.reduceLeDiff, Nat.reduceSub, Nat.reduceMul, Nat.reduceLT, Nat.reduceBEq, Nat.reduceAdd]
   have hf : ¬ (((names : List ByteArray).length ≤ 8 ∧ (code : List EvT.den).length ≤ 200) ∧ (names : List ByteArray).all keyOk = true ∧ (code : List EvT.den).all (insOk (names : List ByteArray).length (code : List EvT.den).length) = true) → K (.bool false) [] := fun hh => by rw [← formP_iff, Bool.not_eq_true] at hh; rw [hh] at h; exact h
   rintro hn1 hn2 m rfl c rfl
   refine sw_intro (fun c1 => ?_) (fun c1 => ?_) <;> simp only [decide_eq_true_eq, decide_eq_false_iff_not] at c1
   ·exact hf (fun hh => by have := hh.1.1; omega)
   rintro hc1 hc2 m rfl c rfl
   refine sw_intro (fun c2 => ?_) (fun c2 => ?_) <;> simp only [decide_eq_true_eq, decide_eq_false_iff_not] at c2
   ·exact hf (fun hh => by have := hh.1.2; omega)
   rintro _ _ m rfl
   refine loop_intro (A := L17 (.sl p 16 .str names) (.sl q 16 EvT code) names (.sl p 16 .str names)) (0 : Nat) ?_ ⟨Nat.zero_le _, rfl⟩ ?_
   ·simp (maxSteps:=9^9) only [L17_I, go_sem, Int.reduceLT, Int.reduceLE, Int.reduceEq, Int.reduceNe, Int.reduceAdd, Int.reduceSub, Int.reduceMul, Int.reduceToNat, Int.reduceNeg, Nat.reduceEqDiff, Nat.reduceLeDiff, Nat.reduceSub, Nat.reduceMul, Nat.reduceLT, Nat.reduceBEq, Nat.reduceAdd]
    rfl
   ·intro (i : Nat) (hi : i ≤ (names : List ByteArray).length ∧ ((names : List ByteArray).take i).all keyOk = true)
    simp (maxSteps:=9^9) only [L17_I, C37, go_sem, Int.reduceLT, Int.reduceLE, Int.reduceEq, Int.reduceNe, Int.reduceAdd, Int.reduceSub, Int.reduceMul, Int.reduceToNat, Int.reduceNeg, Nat.reduceEqDiff, Nat.reduceLeDiff, Nat.reduceSub, Nat.reduceMul, Nat.reduceLT, Nat.reduceBEq, Nat.reduceAdd]
    rintro c rfl
    refine sw_intro (fun hc => ?_) (fun hc => ?_) <;> simp only [decide_eq_true_eq, decide_eq_false_iff_not] at hc
    ·refine nd_intro hc (sw_intro (fun hk => ?_) (fun hk => ?_))
     case refine_2 =>
      refine hf (fun hh => ?_)
      have hm := List.all_eq_true.1 hh.2.1 (elt .str names i) (List.mem_of_getElem? (elt_get hc))
      rw [hm] at hk
      simp at hk
     rintro _ _ m hm
     rw [w64 (by omega)] at hm
     subst hm
     refine lpE_intro (A := L17 (.sl p 16 .str names) (.sl q 16 EvT code) names (.sl p 16 .str names)) (i + 1) (by simp (maxSteps:=9^9) only [L17_I, go_sem, Int.reduceLT, Int.reduceLE, Int.reduceEq, Int.reduceNe, Int.reduceAdd, Int.reduceSub, Int.reduceMul, Int.reduceToNat, Int.reduceNeg, Nat.reduceEqDiff, Nat.reduceLeDiff, Nat.reduceSub, Nat.reduceMul, Nat.reduceLT, Nat.reduceBEq, Nat.reduceAdd]; rfl) ⟨by omega, ?_⟩ (by show (names : List ByteArray).length - (i + 1) < (names : List ByteArray).length - i; omega)
     have e3 := take_elt (t := .str) hc
     show List.all (List.take (i + 1) (names : List ByteArray)) _ = true
     rw [← e3, List.all_append, hi.2]
     simpa using hk
    ·have e : i = (names : List ByteArray).length := by have := hi.1;  omega
     have hk := hi.2
     subst e; simp only [List.take_length] at hk
     rintro _ _ m rfl
     refine loop_intro (A := M17 (.sl p 16 .str names) (.sl q 16 EvT code) names.length code (.sl q 16 EvT code)) (0 : Nat) ?_ ⟨Nat.zero_le _, rfl⟩ ?_
     ·simp (maxSteps:=9^9) only [M17_I, go_sem, Int.reduceLT, Int.reduceLE, Int.reduceEq, Int.reduceNe, Int.reduceAdd, Int.reduceSub, Int.reduceMul, Int.reduceToNat, Int.reduceNeg, Nat.reduceEqDiff, Nat.reduceLeDiff, Nat.reduceSub, Nat.reduceMul, Nat.reduceLT, Nat.reduceBEq, Nat.reduceAdd]
      rfl
     ·intro (j : Nat) (hj : j ≤ (code : List EvT.den).length ∧ ((code : List EvT.den).take j).all (insOk names.length (code : List EvT.den).length) = true)
      simp (maxSteps:=9^9) only [M17_I, C32, C38, go_sem, Int.reduceLT, Int.reduceLE, Int.reduceEq, Int.reduceNe, Int.reduceAdd, Int.reduceSub, Int.reduceMul, Int.reduceToNat, Int.reduceNeg, Nat.reduceEqDiff, Nat.reduceLeDiff, Nat.reduceSub, Nat.reduceMul, Nat.reduceLT, Nat.reduceBEq, Nat.reduceAdd]
      rintro c rfl
      refine sw_intro (fun hd => ?_) (fun hd => ?_) <;> simp only [decide_eq_true_eq, decide_eq_false_iff_not] at hd
      ·refine nd_intro hd ?_
       have hb : ¬ insOk names.length code.length (elt EvT code j) = true → K (.bool false) [] := fun hn => hf (fun hh => hn (List.all_eq_true.1 hh.2.2 _ (List.mem_of_getElem? (elt_get hd))))
       have hnx : insOk names.length code.length (elt EvT code j) = true → ∀ m, m = IntKind.i64.wrap ((j : Int) + 1) → lpE (M17 (.sl p 16 .str names) (.sl q 16 EvT code) names.length code (.sl q 16 EvT code)) 0 [1, 32, 33, 34] (0 : Nat) j { fr := [(1, .ptr 0 0), (32, (.sl q 16 EvT code)), (33, .int .i64 code.length), (34, .int .i64 m)], hp := [.struct [(.sl p 16 .str names), (.sl q 16 EvT code)], .struct [.int .i64 (elt EvT code j).fst, .int .i64 (elt EvT code j).snd]] } := fun hk2 m hm => by
        rw [w64 (by omega)] at hm
        subst hm
        refine lpE_intro (A := M17 (.sl p 16 .str names) (.sl q 16 EvT code) names.length code (.sl q 16 EvT code)) (j + 1) (by simp (maxSteps:=9^9) only [M17_I, go_sem, Int.reduceLT, Int.reduceLE, Int.reduceEq, Int.reduceNe, Int.reduceAdd, Int.reduceSub, Int.reduceMul, Int.reduceToNat, Int.reduceNeg, Nat.reduceEqDiff, Nat.reduceLeDiff, Nat.reduceSub, Nat.reduceMul, Nat.reduceLT, Nat.reduceBEq, Nat.reduceAdd]; rfl) ⟨by omega, ?_⟩ (by show code.length - (j + 1) < code.length - j; omega)
        have e3 := take_elt (t := EvT) hd
        show List.all (List.take (j + 1) (code : List EvT.den)) _ = true
        rw [← e3, List.all_append, hj.2]
        simpa using hk2
       simp only [insOk, Bool.and_eq_true, Bool.or_eq_true, decide_eq_true_eq] at hb hnx
       refine ⟨fun ho => hb (fun hh => ho hh.1), fun ho => ?_⟩
       rintro c rfl
       refine sw_intro (fun he => ?_) (fun he => ?_) <;> simp only [Bool.not_eq_true', Bool.not_eq_false', decide_eq_true_eq, decide_eq_false_iff_not] at he
       ·rintro c rfl
        refine sw_intro (fun hl => ?_) (fun hl => ?_) <;> simp only [decide_eq_true_eq, decide_eq_false_iff_not] at hl
        ·exact hb (fun hh => hh.2.elim he (fun h2 => absurd h2.1 (Int.not_le.2 hl)))
        refine ⟨by omega, by omega, ?_⟩
        rintro c rfl
        refine sw_intro (fun hg => ?_) (fun hg => ?_) <;> simp only [decide_eq_true_eq, decide_eq_false_iff_not] at hg
        ·exact hb (fun hh => hh.2.elim he (fun h2 => absurd h2.2 (Int.not_lt.2 hg)))
        intro _ _ m hm
        exact hnx ⟨ho, .inr ⟨Int.not_lt.1 hl, Int.not_le.1 hg⟩⟩ m hm
       ·intro _ _ m hm
        exact hnx ⟨ho, .inl he⟩ m hm
      ·have e2 : (code : List EvT.den).length ≤ j := by  omega
       rw [List.take_of_length_le e2] at hj
       rw [show formP names code = true from formP_iff.2 ⟨⟨by  omega, by  omega⟩, by simpa using hk, hj.2⟩] at h
       exact h
 ·exact h.elim
end Go.V
