/- A part of the proof layer, or functions of the given program in it: contracts and their proofs. -/
import Derived.Test.YthfkoeoaehkoaaaGreatDoorR0
import Derived.Test.YthfkoeoaehkoaaaGreatDoorR1
import Derived.Test.YthfkoeoaehkoaaaGreatDoorMN1
namespace Go.V
open Go.Proofs
open Go.Maps Go.Sort Go.Shelf
set_option maxRecDepth 100000
set_option linter.unusedSimpArgs false
set_option linter.unnecessarySimpa false
set_option linter.unusedVariables false
theorem sorts215 (m : Nat) : AnyZ.SortsIn Tryz.prog Tryz.sorted215_ren Fence.wide m :=
  ⟨fun blk off cap ss W hH hblk hsz => callsIn_wide.2 (AnyM.slices_Sort_string Tryz.sort281 blk off cap ss W hH hblk hsz),
   fun p cap W => callsIn_wide.2 (AnyM.slices_Sort_string_none Tryz.sort281 p cap W)⟩
theorem run215 {H : Type} (B b nn : Nat) (D0 : DataW H) (R : Value → Option (DataW H × List MemPlace)) (w : World) (hB : B < w.heap.size) (hc : w.cell? ⟨B, 0, none⟩ = some (.map (some b))) (hown : w.ownsMap Tryz.prog 9 R b nn D0) (hmax : Maps.size D0 ≤ maxLen) (hbytes : Maps.size D0 * 16 ≤ 140737488355328) :
  Calls Tryz.prog 215 #[.func (.func 282) #[] #[.pointer (some ⟨B, 0, none⟩)]] w fun e w' => ∃ (v : Value) (ss : List (List UInt8)), e = .returned v ∧ ss.Perm (strKeys D0) ∧
   w'.ownsRow w.heap.size 9 1 v ss.length ((ss.mergeSort (fun x y => decide (x ≤ y))).map encStr) ∧ (v = .slice none 0 0 ↔ ss = []) ∧ Go.RowKit.Below w.heap.size w w' := by
 refine (callsIn_wide (n := 5)).1 ?_
 have hseq : SeqGives Fence.wide 2 Tryz.prog 282 #[.pointer (some ⟨B, 0, none⟩)] encStr (fun ss => ss.Perm (strKeys D0)) (Maps.size D0) w :=
  AnyZ.keys_gives (ρ := Tryz.keys216_ren) { Tryz.keys216 with } Fence.wide _ trivial rfl (by omega) B b nn D0 _ hB hc hown
 exact AnyZ.sorted_in Tryz.sorted215 Fence.wide 5 trivial trivial trivial trivial rfl (by omega) (sorts215 _) (enters_of Tryz.func281 (by kernel_rfl) rfl) 282 #[.pointer (some ⟨B, 0, none⟩)] trivial (enters_of Tryz.func282 (by kernel_rfl) rfl) _ _ hmax hbytes _ hseq
theorem run215b {H : Type} (B b nn : Nat) (D0 : DataW H) (R : Value → Option (DataW H × List MemPlace)) (w : World) (hB : B < w.heap.size) (hc : w.cell? ⟨B, 0, none⟩ = some (.map (some b))) (hown : w.ownsMap Tryz.prog 9 R b nn D0) (hmax : Maps.size D0 ≤ maxLen) (hbytes : Maps.size D0 * 16 ≤ 140737488355328) :
  Calls Tryz.prog 215 #[.func (.func 337) #[] #[.pointer (some ⟨B, 0, none⟩)]] w fun e w' => ∃ (v : Value) (ss : List (List UInt8)), e = .returned v ∧ ss.Perm (strKeys D0) ∧
   w'.ownsRow w.heap.size 9 1 v ss.length ((ss.mergeSort (fun x y => decide (x ≤ y))).map encStr) ∧ (v = .slice none 0 0 ↔ ss = []) ∧ Go.RowKit.Below w.heap.size w w' := by
 refine (callsIn_wide (n := 5)).1 ?_
 have hseq : SeqGives Fence.wide 2 Tryz.prog 337 #[.pointer (some ⟨B, 0, none⟩)] encStr (fun ss => ss.Perm (strKeys D0)) (Maps.size D0) w :=
  AnyZ.keys_gives (ρ := Tryz.keysB_ren) { Tryz.keysB with } Fence.wide _ trivial rfl (by omega) B b nn D0 _ hB hc hown
 exact AnyZ.sorted_in Tryz.sorted215 Fence.wide 5 trivial trivial trivial trivial rfl (by omega) (sorts215 _) (enters_of Tryz.func281 (by kernel_rfl) rfl) 337 #[.pointer (some ⟨B, 0, none⟩)] trivial (enters_of Tryz.func337 (by kernel_rfl) rfl) _ _ hmax hbytes _ hseq
def C215 : Contract := fun args hp K => match args, hp with
 | [.fn f [.ptr 0 0]], [.struct [.mp 1], .map va .str vt m] => (f = 282 ∨ f = 337) ∧ (m : List (ByteArray × vt.den)).length ≤ 1000000 ∧ K (.own 2) [.struct [.mp 1], .map va .str vt m, .row true 16 .str (srtK m)]
 | _, _ => False
theorem srtK_string {vt : Ty} (m : List (ByteArray × vt.den)) {ss : List (List UInt8)} (h : ss.Perm (keysB m)) : (srtK m).map Value.string = (ss.mergeSort leB).map encStr := by
 unfold srtK
 rw [mergeSort_of_perm h, List.map_map]
 rfl
theorem srtK_mem {vt : Ty} {m : List (ByteArray × vt.den)} {x : ByteArray} (h : x ∈ srtK m) : ∃ y ∈ m, y.1 = x := by
 unfold srtK at h
 obtain ⟨l, hl, rfl⟩ := List.mem_map.1 h
 have := (List.mergeSort_perm (keysB m) leB).mem_iff.1 hl
 obtain ⟨y, hy, rfl⟩ := List.mem_map.1 this
 exact ⟨y, hy, by cases y.1; simp⟩
theorem srtK_length {vt : Ty} (m : List (ByteArray × vt.den)) : (srtK m).length = m.length := by
 simp [srtK, keysB, List.length_mergeSort]
theorem rdL_str {w : World} {F : Nat → Prop} : ∀ (l : List ByteArray), (∀ x ∈ l, x.size ≤ maxLen) → rdL (rd w F .str) l (l.map Value.string)
 | [], _ => by simp [rdL]
 | x :: r, h => ⟨[_], _, rfl, by simp only [rd]; exact ⟨trivial, h x (by simp)⟩, rdL_str r (fun y hy => h y (List.mem_cons_of_mem _ hy))⟩
theorem s215 : Sound Tryz.prog 215 C215 := by
 intro args hp K h E vs hs hg hd
 unfold C215 at h
 split at h
 ·rename_i f va vt m
  obtain ⟨hf, hm, h⟩ := h
  have hf' : f < 1000000 := by omega
  simp only [denL, den, fnV, if_pos hf'] at hd
  obtain ⟨v, r, rfl, ⟨cs, rfl, v2, r2, hcs, ⟨hN, B, hB, rfl⟩, rfl⟩, rfl⟩ := hd
  have hcs' : cs = #[.pointer (some ⟨B, 0, none⟩)] := by
   apply Array.ext'; rw [hcs]
  subst hcs'
  obtain ⟨B', cur, T, fr, q1, q2, q3, q4⟩ := hs.ok 0 _ rfl
  rw [hB] at q1
  cases q1
  rw [denC_cons rfl] at q4
  obtain ⟨v, c2, q5, q6, q7⟩ := q4
  simp only [denC] at q7
  subst q7
  simp only [den] at q6
  obtain ⟨_, b, hb, rfl⟩ := q6
  obtain ⟨b', es, clk, w1, w2, w3⟩ := hs.ok 1 _ rfl
  rw [hb] at w1
  cases w1
  have hlt : B < E.w.heap.size := (Array.getElem?_eq_some_iff.1 q2).1
  have hcell : E.w.cell? ⟨B, 0, none⟩ = some (.map (some b)) := by
   simp only [World.cell?, q2]
   have : cur[0]? = some (.map (some b)) := by rw [← Array.getElem?_toList, q5]; rfl
   simp [this]
  obtain ⟨D, hown, hperm, hsz⟩ := ownsMap_of (P := Tryz.prog) (k := 9) (by kernel_rfl) w2 w3
  obtain ⟨k1, k2⟩ := rdM_keys (vt := vt) m es.toList w3.rd
  have run : Calls Tryz.prog 215 #[.func (.func f) #[] #[.pointer (some ⟨B, 0, none⟩)]] E.w fun e w' => ∃ (v : Value) (ss : List (List UInt8)), e = .returned v ∧ ss.Perm (strKeys D) ∧
    w'.ownsRow E.w.heap.size 9 1 v ss.length ((ss.mergeSort (fun x y => decide (x ≤ y))).map encStr) ∧ (v = .slice none 0 0 ↔ ss = []) ∧ Go.RowKit.Below E.w.heap.size E.w w' := by
   rcases hf with rfl | rfl
   ·exact run215 B b m.length D R0 E.w hlt hcell hown (by rw [hsz]; simp only [maxLen]; omega) (by rw [hsz]; omega)
   ·exact run215b B b m.length D R0 E.w hlt hcell hown (by rw [hsz]; simp only [maxLen]; omega) (by rw [hsz]; omega)
  refine run.mono ?_
  rintro e w' ⟨v, ss, rfl, hS, hrow, hnil, hbelow⟩
  have hS' : ss.Perm (keysB m) := hS.trans hperm
  have hlen : ss.length = m.length := by rw [hS'.length_eq]; simp [keysB]
  have hc : Chg E.w w' (fun _ => False) := ⟨hbelow.os, hbelow.tape, hbelow.output, hbelow.size, fun b hb _ => hbelow.block b hb⟩
  have hstr := srtK_string m hS'
  have hkl : ∀ x ∈ srtK m, x.size ≤ maxLen := fun x hx => by obtain ⟨y, hy, rfl⟩ := srtK_mem hx; exact k2 y hy
  have go : ∀ (rv' : RV), rv'.val = v → (∀ b, rv'.blk = some b → E.w.heap.size ≤ b ∧ b < w'.heap.size) → SBok { E with N := E.N + 1, ρ := upR E.ρ E.N rv', w := w' } rv' (.row true 16 .str (srtK m)) →
    ∃ r hp' E' v', Ending.returned v = .returned v' ∧ E'.w = w' ∧ K r hp' ∧ HS hp' E' ∧ den E' r v' ∧ Ev [.struct [.mp 1], .map va .str vt m] E hp' E' ∧ Id 2 E.ρ hp' E'.ρ := by
   intro rv' hv hn ho
   have hp := hs.push hc hn ho
   refine ⟨.own 2, _, _, v, rfl, rfl, h, hp.1, ?_, Ev.push hs hc (fun b hb => (hn b hb).1), ?_⟩
   ·simp only [den]
    have hN2 : E.N = 2 := hs.n
    refine ⟨by show 2 < E.N + 1; omega, ?_, ?_⟩
    ·show v = (upR E.ρ E.N rv' 2).val
     rw [← hN2, upd_same, hv]
    ·rcases hrow.2 with ⟨rfl, _⟩ | ⟨g, cap, cur, rfl, _⟩ <;> rfl
   ·have hid : Id 2 E.ρ [.struct [.mp 1], .map va .str vt m] E.ρ := ⟨Nat.le_refl _, fun i sb _ hsb => by
     match i, hsb with
     | 0, hsb => cases hsb; rfl
     | 1, hsb => cases hsb; rfl⟩
    exact hid.push hs.n
  rcases hrow.2 with ⟨hv, hz⟩ | ⟨g, cap, cur2, hv, hg, hgb, r1, r2, r3, r4⟩
  ·refine go ⟨none, v⟩ rfl (fun b hb => by cases hb) (.inl ⟨⟨none, hv⟩, rfl, ?_⟩)
   exact List.length_eq_zero_iff.1 (by rw [srtK_length]; omega)
  ·refine go ⟨some g, v⟩ rfl (fun b hb => by cases hb; exact ⟨hg, (Array.getElem?_eq_some_iff.1 hgb).1⟩) (.inr ⟨g, 0, cap, cur2, 9, (0, 0), _, ?_, rfl, hgb, ⟨.inl rfl, by simp⟩, ?_, r2, ?_, ?_, rfl, ?_⟩)
   ·rw [srtK_length, ← hlen]; exact hv
   ·rw [srtK_length, ← hlen]; exact r1
   ·rw [r3]; simp [Ty.size]
   ·rw [srtK_length]; omega
   ·have e : (cur2.toList.drop 0).take ((srtK m).length * Ty.str.size) = (srtK m).map Value.string := by
     rw [List.drop_zero, srtK_length, ← hlen, hstr]
     exact r4
    rw [e]
    exact rdL_str _ hkl
 ·exact h.elim
end Go.V
