/- A part of the proof layer, or functions of the given program in it: contracts and their proofs. -/
import Derived.Test.YthfkoeoaehkoaaaGreatDoorMVzb
namespace Go.V
open Go.Proofs
set_option maxRecDepth 100000
set_option maxHeartbeats 4000000
set_option linter.unusedSimpArgs false
set_option linter.unnecessarySimpa false
set_option linter.unusedVariables false
theorem swd9 {c : Bool} {p : Prop} [Decidable p] {A B : Prop} (hc : c = decide p) (h1 : p → A) (h2 : ¬ p → B) : sw c A B := by
 subst hc
 exact sw_intro (fun h => h1 (of_decide_eq_true h)) (fun h => h2 (of_decide_eq_false h))
def kindsF (w : ByteArray) (n : Nat) : Option (List UInt8) :=
 if w = ⟨#[111, 102, 102, 101, 114]⟩ then some ([99, 115, 107, 105] ++ List.replicate (min (n - 4) 4) 105) else
 if w = ⟨#[116, 105, 99, 107]⟩ then some [105] else
 if w = ⟨#[112, 105, 99, 107]⟩ ∨ w = ⟨#[114, 101, 108, 97, 121]⟩ ∨ w = ⟨#[112, 97, 114, 100, 111, 110]⟩ ∨ w = ⟨#[115, 116, 97, 116, 101]⟩ ∨ w = ⟨#[109, 97, 105, 108]⟩ then some [107] else
 if w = ⟨#[114, 101, 109, 105, 110, 100]⟩ then some [107, 110, 105, 105, 105] else
 if w = ⟨#[99, 97, 110, 99, 101, 108]⟩ then some [107, 110] else
 if w = ⟨#[115, 101, 114, 118, 101]⟩ ∨ w = ⟨#[99, 104, 101, 99, 107, 112, 111, 105, 110, 116]⟩ ∨ w = ⟨#[107, 101, 121, 115]⟩ ∨ w = ⟨#[99, 108, 111, 99, 107]⟩ then some [] else none
def C27 : Contract := fun args hp K => match args, hp with
 | [.str w, .int .i64 n], [] => (0 ≤ n ∧ n ≤ 100000) ∧ K (.tup [.str (bsOf ((kindsF w n.toNat).getD [])), .bool (kindsF w n.toNat).isSome]) []
 | _, _ => False
attribute [local irreducible] rc
theorem s27 : Sound Tryz.prog 27 C27 := by
 refine sound_of_okF ok27 (.cons s65 ⟨_, Tryz.func65, rfl, by decide⟩ .nil) ?_
 intro args hp K h
 unfold C27 at h
 split at h
 ·rename_i w n
  obtain ⟨⟨h0, h1⟩, h⟩ := h
  refine ⟨by simp, [], ?_⟩
  have hm := maxLen_val
  simp (maxSteps:=9^9) only [a27, r27, go_sem, Int.reduceLT, Int.reduceLE, Int.reduceEq, Int.reduceNe, Int.reduceAdd, Int.reduceSub, Int.reduceMul, Int.reduceToNat, Int.reduceNeg, Nat.reduceEqDiff, Nat.reduceLeDiff, Nat.reduceSub, Nat.reduceMul, Nat.reduceLT, Nat.reduceBEq, Nat.reduceAdd, Nat.reduceDiv, Nat.reduceMod]
  intro c hc
  refine swd9 hc (fun e => ?_) (fun n1 => ?_)
  ·rintro _ _ m hm1 m1 hm2 m2 hm3
   rw [w64 (by omega)] at hm1
   have e4 : m2 = ((min (n.toNat - 4) 4 : Nat) : Int) := by
    rw [hm3, hm2, hm1]
    split <;> split <;> omega
   refine ⟨rfl, by omega, ?_⟩
   simp (maxSteps:=9^9) only [go_sem, Int.reduceLT, Int.reduceLE, Int.reduceEq, Int.reduceNe, Int.reduceAdd, Int.reduceSub, Int.reduceMul, Int.reduceToNat, Int.reduceNeg, Nat.reduceEqDiff, Nat.reduceLeDiff, Nat.reduceSub, Nat.reduceMul, Nat.reduceLT, Nat.reduceBEq, Nat.reduceAdd, Nat.reduceDiv, Nat.reduceMod]
   have e0 : kindsF w n.toNat = some ([99, 115, 107, 105] ++ List.replicate (min (n.toNat - 4) 4) 105) := (by unfold kindsF; rw [if_pos e])
   rw [e0] at h
   have e5 : m2.toNat = min (n.toNat - 4) 4 := by omega
   rw [e5]
   refine ⟨?_, ?_⟩
   ·unfold repB
    rw [bsOf_size, List.length_replicate, hm]
    show 4 + _ ≤ 9223372036854775807
    omega
   ·rintro u rfl
    have e6 : (⟨#[99, 115, 107, 105]⟩ : ByteArray) ++ repB (min (n.toNat - 4) 4) = bsOf ([99, 115, 107, 105] ++ List.replicate (min (n.toNat - 4) 4) 105) := by
     unfold repB
     apply ByteArray.ext
     rw [ByteArray.data_append]
     simp [bsOf]
    rw [e6]
    exact h
  intro c hc
  refine swd9 hc (fun e => (by have e0 : kindsF w n.toNat = some [105] := (by unfold kindsF; rw [if_neg n1, if_pos e]); rw [e0] at h; exact h)) (fun n2 => ?_)
  intro c hc
  refine swd9 hc (fun e => swd9 hc (fun _ => (by have e0 : kindsF w n.toNat = some [107] := (by unfold kindsF; rw [if_neg n1, if_neg n2, if_pos (.inl e)]); rw [e0] at h; exact h)) (fun e' => absurd e e')) (fun n30 => ?_)
  intro c hc
  refine swd9 hc (fun e => swd9 hc (fun _ => (by have e0 : kindsF w n.toNat = some [107] := (by unfold kindsF; rw [if_neg n1, if_neg n2, if_pos (.inr (.inl e))]); rw [e0] at h; exact h)) (fun e' => absurd e e')) (fun n31 => ?_)
  intro c hc
  refine swd9 hc (fun e => swd9 hc (fun _ => (by have e0 : kindsF w n.toNat = some [107] := (by unfold kindsF; rw [if_neg n1, if_neg n2, if_pos (.inr (.inr (.inl e)))]); rw [e0] at h; exact h)) (fun e' => absurd e e')) (fun n32 => ?_)
  intro c hc
  refine swd9 hc (fun e => swd9 hc (fun _ => (by have e0 : kindsF w n.toNat = some [107] := (by unfold kindsF; rw [if_neg n1, if_neg n2, if_pos (.inr (.inr (.inr (.inl e))))]); rw [e0] at h; exact h)) (fun e' => absurd e e')) (fun n33 => ?_)
  intro c hc
  refine swd9 hc (fun e => (by have e0 : kindsF w n.toNat = some [107] := (by unfold kindsF; rw [if_neg n1, if_neg n2, if_pos (.inr (.inr (.inr (.inr e))))]); rw [e0] at h; exact h)) (fun n34 => ?_)
  have n3 : ¬ _ := fun e => Or.elim e n30 (fun e => Or.elim e n31 (fun e => Or.elim e n32 (fun e => Or.elim e n33 n34)))
  intro c hc
  refine swd9 hc (fun e => (by have e0 : kindsF w n.toNat = some [107, 110, 105, 105, 105] := (by unfold kindsF; rw [if_neg n1, if_neg n2, if_neg n3, if_pos e]); rw [e0] at h; exact h)) (fun n4 => ?_)
  intro c hc
  refine swd9 hc (fun e => (by have e0 : kindsF w n.toNat = some [107, 110] := (by unfold kindsF; rw [if_neg n1, if_neg n2, if_neg n3, if_neg n4, if_pos e]); rw [e0] at h; exact h)) (fun n5 => ?_)
  intro c hc
  refine swd9 hc (fun e => swd9 hc (fun _ => (by have e0 : kindsF w n.toNat = some [] := (by unfold kindsF; rw [if_neg n1, if_neg n2, if_neg n3, if_neg n4, if_neg n5, if_pos (.inl e)]); rw [e0] at h; exact h)) (fun e' => absurd e e')) (fun n60 => ?_)
  intro c hc
  refine swd9 hc (fun e => swd9 hc (fun _ => (by have e0 : kindsF w n.toNat = some [] := (by unfold kindsF; rw [if_neg n1, if_neg n2, if_neg n3, if_neg n4, if_neg n5, if_pos (.inr (.inl e))]); rw [e0] at h; exact h)) (fun e' => absurd e e')) (fun n61 => ?_)
  intro c hc
  refine swd9 hc (fun e => swd9 hc (fun _ => (by have e0 : kindsF w n.toNat = some [] := (by unfold kindsF; rw [if_neg n1, if_neg n2, if_neg n3, if_neg n4, if_neg n5, if_pos (.inr (.inr (.inl e)))]); rw [e0] at h; exact h)) (fun e' => absurd e e')) (fun n62 => ?_)
  intro c hc
  refine swd9 hc (fun e => (by have e0 : kindsF w n.toNat = some [] := (by unfold kindsF; rw [if_neg n1, if_neg n2, if_neg n3, if_neg n4, if_neg n5, if_pos (.inr (.inr (.inr e)))]); rw [e0] at h; exact h)) (fun n63 => ?_)
  have n6 : ¬ _ := fun e => Or.elim e n60 (fun e => Or.elim e n61 (fun e => Or.elim e n62 n63))
  have e0 : kindsF w n.toNat = none := (by unfold kindsF; rw [if_neg n1, if_neg n2, if_neg n3, if_neg n4, if_neg n5, if_neg n6])
  rw [e0] at h
  exact h
 ·exact h.elim
end Go.V
namespace Go.V
set_option linter.unusedSimpArgs false
set_option linter.unnecessarySimpa false
set_option linter.unusedVariables false
structure Cmd where
 word : ByteArray
 keys : List ByteArray
 client : Nat
 serial : Nat
 ints : List Int
def stepC (kd : UInt8) (s : ByteArray) (c : Cmd) : Option Cmd :=
 if kd = 99 then (natF s.data.toList).map fun n => { c with client := n }
 else if kd = 115 then (natF s.data.toList).map fun n => { c with serial := n }
 else if kd = 105 then (numI s.data.toList).map fun n => { c with ints := c.ints ++ [n] }
 else if kd = 110 ∧ s = ⟨#[45]⟩ then some { c with keys := c.keys ++ [ByteArray.empty] }
 else match unhexF s with
  | some l => if keyOk (bsOf l) = true then some { c with keys := c.keys ++ [bsOf l] } else none
  | none => none
def goC : List UInt8 → List ByteArray → Cmd → Option Cmd
 | k :: ks, w :: ws, c => match stepC k w c with
  | some c' => goC ks ws c'
  | none => none
 | _, _, c => some c
def parseC (s : ByteArray) : Except Int Cmd :=
 if 1000 < s.size then .error 4 else
  match kindsF ((wordsB s).headD ByteArray.empty) ((wordsB s).length - 1) with
  | none => .error 2
  | some ks => if (wordsB s).length - 1 = ks.length then
    match goC ks (wordsB s).tail ⟨(wordsB s).headD ByteArray.empty, [], 0, 0, []⟩ with
    | some c => .ok c
    | none => .error 2
   else .error 2
end Go.V
namespace Go.V
open Go.Proofs
set_option maxRecDepth 100000
set_option maxHeartbeats 8000000
set_option linter.unusedSimpArgs false
set_option linter.unnecessarySimpa false
set_option linter.unusedVariables false
def zeroC : SV := .agg [.str ByteArray.empty, .nils, .int .u64 0, .int .u64 0, .nils]
def cmdV (c : Cmd) : SV := .agg [.str c.word, .sl true 16 .str c.keys, .int .u64 c.client, .int .u64 c.serial, .sl true 8 (.int .i64) c.ints]
def CParse : Contract := fun args hp K => match args, hp with
 | [.str s], [] => s.size ≤ 1000000 ∧ (∀ e, parseC s = .error e → K (.tup [zeroC, .int .i64 e]) []) ∧ (∀ c, parseC s = .ok c → K (.tup [cmdV c, .int .i64 0]) [])
 | _, _ => False
section use
variable {K : SV → List SB → Prop}
theorem use26 {s : ByteArray} (hs : s.size ≤ 100000) (k : K (.own 0) [.row true 16 .str (wordsB s)]) : C26 [.str s, .str ⟨#[32]⟩] [] K := ⟨rfl, hs, k⟩
theorem use27 {w : ByteArray} {n : Int} (hn : 0 ≤ n ∧ n ≤ 100000) (k : K (.tup [.str (bsOf ((kindsF w n.toNat).getD [])), .bool (kindsF w n.toNat).isSome]) []) : C27 [.str w, .int .i64 n] [] K := ⟨hn, k⟩
theorem use28 {x : ByteArray} (hx : x.size ≤ 100000) (h0 : natF x.data.toList = none → ∀ n, inR .u64 n → K (.tup [.int .u64 n, .bool false]) []) (h1 : ∀ v : Nat, natF x.data.toList = some v → inR .u64 v → K (.tup [.int .u64 v, .bool true]) []) : C28 [.str x] [] K := by
 refine ⟨by omega, fun n b hn hb1 hb0 => ?_⟩
 cases b
 ·exact h0 (by rw [← numP_natF]; exact hb0 rfl) n hn
 ·obtain ⟨v, hv, rfl⟩ := hb1 rfl
  exact h1 v (by rw [← numP_natF]; exact hv) hn
theorem use29 {x : ByteArray} (hx : x.size ≤ 100000) (h0 : numI x.data.toList = none → ∀ n, inR .i64 n → K (.tup [.int .i64 n, .bool false]) []) (h1 : ∀ v : Int, numI x.data.toList = some v → inR .i64 v → K (.tup [.int .i64 v, .bool true]) []) : C29 [.str x] [] K := by
 refine ⟨by omega, fun n b hn hb1 hb0 => ?_⟩
 cases b
 ·exact h0 (by rw [← intP_numI]; exact hb0 rfl) n hn
 ·exact h1 n (by rw [← intP_numI]; exact hb1 rfl) hn
theorem use30 {x : ByteArray} (hx : x.size ≤ 100000) (h0 : unhexF x = none → K (.tup [.str ByteArray.empty, .bool false]) []) (h1 : ∀ l, unhexF x = some l → K (.tup [.str (bsOf l), .bool (keyOk (bsOf l))]) []) : C30 [.str x] [] K := ⟨hx, h0, h1⟩
end use
theorem words_size {s x : ByteArray} (h : x ∈ wordsB s) : x.size ≤ s.size := by
 obtain ⟨l, hl, rfl⟩ := List.mem_map.1 h
 rw [bsOf_size]
 have := splitL_sum _ l hl
 have e : s.data.toList.length = s.size := by simp
 omega
theorem swn9 {c : Bool} {p : Prop} [Decidable p] {A B : Prop} (hc : c = !decide p) (h1 : ¬ p → A) (h2 : p → B) : sw c A B := by
 subst hc
 refine sw_intro (fun h => h1 (fun e => ?_)) (fun h => h2 (Classical.byContradiction fun e => ?_))
 ·rw [decide_eq_true e] at h; cases h
 ·rw [decide_eq_false e] at h; cases h
theorem words_cons (s : ByteArray) : ∃ w0 ws, wordsB s = w0 :: ws ∧ ws.length ≤ s.size := by
 cases hx : wordsB s with
 | nil => exact absurd (List.map_eq_nil_iff.1 hx) (splitL_ne_nil _)
 | cons a l =>
  refine ⟨a, l, rfl, ?_⟩
  have h9 := splitL_count s.data.toList
  have e9 : (wordsB s).length = (splitL 32 s.data.toList).length := by unfold wordsB; rw [List.length_map]
  rw [hx] at e9
  have e : s.data.toList.length = s.size := by simp
  simp only [List.length_cons] at e9
  omega
structure G10 where
 i : Nat
 c : Cmd
def A10 (w0 : ByteArray) (ws : List ByteArray) (ks : List UInt8) : LoopAnn := {
 G := G10
 I := fun g => ⟨[(2, .ptr 0 0), (5, .ptr 1 0), (6, .str (bsOf ks)), (42, .vw 4 1 (ws.length + 1) 1), (43, .int .i64 ws.length), (44, .int .i64 g.i)],
  [.struct [.str ByteArray.empty, .nils, .int .u64 0, .int .u64 0, .nils], .struct [.str g.c.word, .own 2, .int .u64 g.c.client, .int .u64 g.c.serial, .own 3], .row true 16 .str g.c.keys, .row true 8 (.int .i64) g.c.ints, .row true 16 .str (w0 :: ws)]⟩
 R := fun _ g => goC (ks.drop g.i) (ws.drop g.i) g.c = goC ks ws ⟨w0, [], 0, 0, []⟩ ∧ g.i ≤ ws.length ∧ g.c.keys.length ≤ g.i ∧ g.c.ints.length ≤ g.i ∧ (g.c.client ≤ 18446744073709551615 ∧ g.c.serial ≤ 18446744073709551615)
 μ := fun g => ws.length - g.i }
theorem I10 (w0 ws ks) (g : G10) : (A10 w0 ws ks).I g = ⟨[(2, .ptr 0 0), (5, .ptr 1 0), (6, .str (bsOf ks)), (42, .vw 4 1 (ws.length + 1) 1), (43, .int .i64 ws.length), (44, .int .i64 g.i)],
  [.struct [.str ByteArray.empty, .nils, .int .u64 0, .int .u64 0, .nils], .struct [.str g.c.word, .own 2, .int .u64 g.c.client, .int .u64 g.c.serial, .own 3], .row true 16 .str g.c.keys, .row true 8 (.int .i64) g.c.ints, .row true 16 .str (w0 :: ws)]⟩ := rfl
attribute [local irreducible] rc C26 C27 C28 C29 C30
theorem s10 : Sound Tryz.prog 10 CParse := by
 refine sound_of_okF ok10 (.cons s26 ⟨_, Tryz.func26, rfl, by decide⟩ (.cons s27 (callable_of_okF ok27) (.cons s28 ⟨_, Tryz.func28, rfl, by decide⟩ (.cons s29 ⟨_, Tryz.func29, rfl, by decide⟩ (.cons s30 (callable_of_okF ok30) .nil))))) ?_
 intro args hp K h
 unfold CParse at h
 split at h
 ·rename_i s
  obtain ⟨hs, h1, h2⟩ := h
  obtain ⟨w0, ws, hw, hn⟩ := words_cons s
  refine ⟨by simp, [(1, A10 w0 ws ((kindsF w0 ws.length).getD []))], ?_⟩
  have hm := maxLen_val
  simp (maxSteps:=9^9) only [a10, r10, go_sem, Int.reduceLT, Int.reduceLE, Int.reduceEq, Int.reduceNe, Int.reduceAdd, Int.reduceSub, Int.reduceMul, Int.reduceToNat, Int.reduceNeg, Nat.reduceEqDiff, Nat.reduceLeDiff, Nat.reduceSub, Nat.reduceMul, Nat.reduceLT, Nat.reduceBEq, Nat.reduceAdd, Nat.reduceDiv, Nat.reduceMod]
  rintro _ m rfl c0 hc0
  refine swd9 hc0 (fun hl => ?_) (fun hl => ?_)
  ·exact h1 4 (by unfold parseC; rw [if_pos (by omega)])
  refine use26 (by omega) ?_
  have hp : parseC s = match kindsF w0 ws.length with
    | none => .error 2
    | some ks => if ws.length = ks.length then (match goC ks ws ⟨w0, [], 0, 0, []⟩ with
      | some c => .ok c
      | none => .error 2) else .error 2 := by
   unfold parseC
   rw [if_neg (by omega), hw]
   rfl
  have hw0 := hw
  rw [hw]
  rw [hp] at h1 h2
  clear hp hw
  simp (maxSteps:=9^9) only [go_sem, Int.reduceLT, Int.reduceLE, Int.reduceEq, Int.reduceNe, Int.reduceAdd, Int.reduceSub, Int.reduceMul, Int.reduceToNat, Int.reduceNeg, Nat.reduceEqDiff, Nat.reduceLeDiff, Nat.reduceSub, Nat.reduceMul, Nat.reduceLT, Nat.reduceBEq, Nat.reduceAdd, Nat.reduceDiv, Nat.reduceMod]
  have e1 : List.take (ws.length + 1 - 1) ws = ws := by simp
  have e2 : elt Ty.str (w0 :: ws) 0 = w0 := rfl
  refine nd_intro (by simp) (nd_intro (by simp; omega) ?_)
  rw [e1, e2]
  intro _ _ m hm2
  refine use27 (by omega) ?_
  have e3 : m.toNat = ws.length := by omega
  subst hm2
  rw [Int.toNat_natCast]
  cases hk : kindsF w0 ws.length with
  | none =>
   rw [hk] at h1
   simp (maxSteps:=9^9) only [Option.getD_none, Option.isSome_none, go_sem, Int.reduceLT, Int.reduceLE, Int.reduceEq, Int.reduceNe, Int.reduceAdd, Int.reduceSub, Int.reduceMul, Int.reduceToNat, Int.reduceNeg, Nat.reduceEqDiff, Nat.reduceLeDiff, Nat.reduceSub, Nat.reduceMul, Nat.reduceLT, Nat.reduceBEq, Nat.reduceAdd, Nat.reduceDiv, Nat.reduceMod]
   exact h1 2 rfl
  | some ks =>
   rw [hk] at h1 h2
   simp (maxSteps:=9^9) only [Option.getD_some, Option.isSome_some, go_sem, Int.reduceLT, Int.reduceLE, Int.reduceEq, Int.reduceNe, Int.reduceAdd, Int.reduceSub, Int.reduceMul, Int.reduceToNat, Int.reduceNeg, Nat.reduceEqDiff, Nat.reduceLeDiff, Nat.reduceSub, Nat.reduceMul, Nat.reduceLT, Nat.reduceBEq, Nat.reduceAdd, Nat.reduceDiv, Nat.reduceMod]
   rw [e1]
   rintro _ _ m rfl _ m1 hm1 c hc
   rw [bsOf_size] at hm1
   refine swn9 hc (fun hne => ?_) (fun heq => ?_)
   ·refine h1 2 ?_
    have : ¬ ws.length = ks.length := by omega
    simp only [if_neg this]
   have hlen : ws.length = ks.length := by omega
   simp only [if_pos hlen] at h1 h2
   rintro _ _ m rfl
   refine loop_intro (A := A10 w0 ws ks) (⟨0, ⟨w0, [], 0, 0, []⟩⟩ : G10) ?_ ⟨rfl, Nat.zero_le _, Nat.le_refl _, Nat.le_refl _, Nat.zero_le _, Nat.zero_le _⟩ ?_
   ·simp (maxSteps:=9^9) only [I10, go_sem, Int.reduceLT, Int.reduceLE, Int.reduceEq, Int.reduceNe, Int.reduceAdd, Int.reduceSub, Int.reduceMul, Int.reduceToNat, Int.reduceNeg, Nat.reduceEqDiff, Nat.reduceLeDiff, Nat.reduceSub, Nat.reduceMul, Nat.reduceLT, Nat.reduceBEq, Nat.reduceAdd, Nat.reduceDiv, Nat.reduceMod]
    rfl
   rintro ⟨i, c⟩ ⟨g1, g2, g3, g4, g5, g6⟩
   change goC (ks.drop i) (ws.drop i) c = goC ks ws ⟨w0, [], 0, 0, []⟩ at g1
   change i ≤ ws.length at g2
   change c.keys.length ≤ i at g3
   change c.ints.length ≤ i at g4
   change c.client ≤ 18446744073709551615 at g5
   change c.serial ≤ 18446744073709551615 at g6
   simp (maxSteps:=9^9) only [I10, go_sem, Int.reduceLT, Int.reduceLE, Int.reduceEq, Int.reduceNe, Int.reduceAdd, Int.reduceSub, Int.reduceMul, Int.reduceToNat, Int.reduceNeg, Nat.reduceEqDiff, Nat.reduceLeDiff, Nat.reduceSub, Nat.reduceMul, Nat.reduceLT, Nat.reduceBEq, Nat.reduceAdd, Nat.reduceDiv, Nat.reduceMod]
   intro cc hcc
   refine swd9 hcc (fun hlt => ?_) (fun hge => ?_)
   ·have hki : ∃ k kr, ks.drop i = k :: kr := by
     cases hx : ks.drop i with
     | nil => have := congrArg List.length hx; simp at this; omega
     | cons a b => exact ⟨a, b, rfl⟩
    obtain ⟨k, kr, hki⟩ := hki
    have hwi : ∃ x xr, ws.drop i = x :: xr := by
     cases hx : ws.drop i with
     | nil => have := congrArg List.length hx; simp at this; omega
     | cons a b => exact ⟨a, b, rfl⟩
    obtain ⟨x, xr, hwi⟩ := hwi
    rw [hki, hwi, goC] at g1
    have ex : elt Ty.str (w0 :: ws) (1 + i) = x := by
     have : ws[i]? = some x := by rw [← List.head?_drop, hwi]; rfl
     exact elt_eq (by rw [Nat.add_comm]; simpa using this)
    refine nd_intro (by omega) (nd_intro (by omega) (nd_intro (by rw [bsOf_size]; omega) ?_))
    have hxm : x ∈ wordsB s := by
     have : x ∈ ws := by rw [← List.take_append_drop i ws, hwi]; simp
     rw [hw0]; exact List.mem_cons_of_mem _ this
    have hxs := words_size hxm
    rw [ex]
    clear ex hxm
    have hkr : ks.drop (i + 1) = kr := by rw [← List.tail_drop, hki]; rfl
    have hwr : ws.drop (i + 1) = xr := by rw [← List.tail_drop, hwi]; rfl
    have bad : stepC k x c = none → K (.tup [zeroC, .int .i64 2]) [] := fun e => h1 2 (by rw [← g1, e])
    have good : ∀ c', stepC k x c = some c' → goC (ks.drop (i + 1)) (ws.drop (i + 1)) c' = goC ks ws ⟨w0, [], 0, 0, []⟩ := fun c' e => by rw [hkr, hwr, ← g1, e]
    have hkk : ks[i]? = some k := by rw [← List.head?_drop, hki]; rfl
    have keq : ∀ n : UInt8, (k.toNat : Int) = n.toNat → k = n := fun n e => UInt8.toNat_inj.1 (by omega)
    intro m hm1 c1 hc1
    have hmk : m = k.toNat := by
     rw [hm1]
     simp [bsOf, List.getD_eq_getElem?_getD, hkk]
    clear hm1 h1 h2
    subst hmk
    refine swd9 hc1 (fun e99 => ?_) (fun n99 => ?_)
    ·have k9 := keq 99 e99
     refine use28 (by omega) (fun hnn n hn' => ?_) (fun v hv hn' => ?_)
     ·simp (maxSteps:=9^9) only [go_sem, Int.reduceLT, Int.reduceLE, Int.reduceEq, Int.reduceNe, Int.reduceAdd, Int.reduceSub, Int.reduceMul, Int.reduceToNat, Int.reduceNeg, Nat.reduceEqDiff, Nat.reduceLeDiff, Nat.reduceSub, Nat.reduceMul, Nat.reduceLT, Nat.reduceBEq, Nat.reduceAdd, Nat.reduceDiv, Nat.reduceMod]
      exact bad (by unfold stepC; rw [if_pos k9, hnn]; rfl)
     ·simp (maxSteps:=9^9) only [go_sem, Int.reduceLT, Int.reduceLE, Int.reduceEq, Int.reduceNe, Int.reduceAdd, Int.reduceSub, Int.reduceMul, Int.reduceToNat, Int.reduceNeg, Nat.reduceEqDiff, Nat.reduceLeDiff, Nat.reduceSub, Nat.reduceMul, Nat.reduceLT, Nat.reduceBEq, Nat.reduceAdd, Nat.reduceDiv, Nat.reduceMod]
      rintro _ _ m2 hm2
      rw [w64 (by omega)] at hm2
      subst hm2
      have hv9 := hn'.2
      rw [u64_max] at hv9
      refine lpE_intro (A := A10 w0 ws ks) (⟨i + 1, { c with client := v }⟩ : G10) ?_ ⟨good _ (by unfold stepC; rw [if_pos k9, hv]; rfl), by show i + 1 ≤ ws.length; omega, by show c.keys.length ≤ i + 1; omega, by show c.ints.length ≤ i + 1; omega, by show v ≤ _; omega, g6⟩ (by show ws.length - (i + 1) < ws.length - i; omega)
      simp (maxSteps:=9^9) only [I10, go_sem, Int.reduceLT, Int.reduceLE, Int.reduceEq, Int.reduceNe, Int.reduceAdd, Int.reduceSub, Int.reduceMul, Int.reduceToNat, Int.reduceNeg, Nat.reduceEqDiff, Nat.reduceLeDiff, Nat.reduceSub, Nat.reduceMul, Nat.reduceLT, Nat.reduceBEq, Nat.reduceAdd, Nat.reduceDiv, Nat.reduceMod]
      rfl
    have k1 : ¬ k = 99 := fun e => n99 (by rw [e]; rfl)
    intro c2 hc2
    refine swd9 hc2 (fun e99 => ?_) (fun n115 => ?_)
    ·have k9 := keq 115 e99
     refine use28 (by omega) (fun hnn n hn' => ?_) (fun v hv hn' => ?_)
     ·simp (maxSteps:=9^9) only [go_sem, Int.reduceLT, Int.reduceLE, Int.reduceEq, Int.reduceNe, Int.reduceAdd, Int.reduceSub, Int.reduceMul, Int.reduceToNat, Int.reduceNeg, Nat.reduceEqDiff, Nat.reduceLeDiff, Nat.reduceSub, Nat.reduceMul, Nat.reduceLT, Nat.reduceBEq, Nat.reduceAdd, Nat.reduceDiv, Nat.reduceMod]
      exact bad (by unfold stepC; rw [if_neg k1, if_pos k9, hnn]; rfl)
     ·simp (maxSteps:=9^9) only [go_sem, Int.reduceLT, Int.reduceLE, Int.reduceEq, Int.reduceNe, Int.reduceAdd, Int.reduceSub, Int.reduceMul, Int.reduceToNat, Int.reduceNeg, Nat.reduceEqDiff, Nat.reduceLeDiff, Nat.reduceSub, Nat.reduceMul, Nat.reduceLT, Nat.reduceBEq, Nat.reduceAdd, Nat.reduceDiv, Nat.reduceMod]
      rintro _ _ m2 hm2
      rw [w64 (by omega)] at hm2
      subst hm2
      have hv9 := hn'.2
      rw [u64_max] at hv9
      refine lpE_intro (A := A10 w0 ws ks) (⟨i + 1, { c with serial := v }⟩ : G10) ?_ ⟨good _ (by unfold stepC; rw [if_neg k1, if_pos k9, hv]; rfl), by show i + 1 ≤ ws.length; omega, by show c.keys.length ≤ i + 1; omega, by show c.ints.length ≤ i + 1; omega, g5, by show v ≤ _; omega⟩ (by show ws.length - (i + 1) < ws.length - i; omega)
      simp (maxSteps:=9^9) only [I10, go_sem, Int.reduceLT, Int.reduceLE, Int.reduceEq, Int.reduceNe, Int.reduceAdd, Int.reduceSub, Int.reduceMul, Int.reduceToNat, Int.reduceNeg, Nat.reduceEqDiff, Nat.reduceLeDiff, Nat.reduceSub, Nat.reduceMul, Nat.reduceLT, Nat.reduceBEq, Nat.reduceAdd, Nat.reduceDiv, Nat.reduceMod]
      rfl
    have k2 : ¬ k = 115 := fun e => n115 (by rw [e]; rfl)
    intro c3 hc3
    refine swd9 hc3 (fun e99 => ?_) (fun n105 => ?_)
    ·have k9 := keq 105 e99
     refine use29 (by omega) (fun hnn n hn' => ?_) (fun v hv hn' => ?_)
     ·simp (maxSteps:=9^9) only [go_sem, Int.reduceLT, Int.reduceLE, Int.reduceEq, Int.reduceNe, Int.reduceAdd, Int.reduceSub, Int.reduceMul, Int.reduceToNat, Int.reduceNeg, Nat.reduceEqDiff, Nat.reduceLeDiff, Nat.reduceSub, Nat.reduceMul, Nat.reduceLT, Nat.reduceBEq, Nat.reduceAdd, Nat.reduceDiv, Nat.reduceMod]
      exact ⟨fun _ => by omega, fun _ => bad (by unfold stepC; rw [if_neg k1, if_neg k2, if_pos k9, hnn]; rfl)⟩
     ·simp (maxSteps:=9^9) only [go_sem, Int.reduceLT, Int.reduceLE, Int.reduceEq, Int.reduceNe, Int.reduceAdd, Int.reduceSub, Int.reduceMul, Int.reduceToNat, Int.reduceNeg, Nat.reduceEqDiff, Nat.reduceLeDiff, Nat.reduceSub, Nat.reduceMul, Nat.reduceLT, Nat.reduceBEq, Nat.reduceAdd, Nat.reduceDiv, Nat.reduceMod]
      refine ⟨fun _ => by omega, fun _ => ?_⟩
      rintro _ _ m2 hm2
      rw [w64 (by omega)] at hm2
      subst hm2
      refine lpE_intro (A := A10 w0 ws ks) (⟨i + 1, { c with ints := c.ints ++ [v] }⟩ : G10) ?_ ⟨good _ (by unfold stepC; rw [if_neg k1, if_neg k2, if_pos k9, hv]; rfl), by show i + 1 ≤ ws.length; omega, by show c.keys.length ≤ i + 1; omega, by show (c.ints ++ [v]).length ≤ i + 1; rw [List.length_append]; simp; omega, g5, g6⟩ (by show ws.length - (i + 1) < ws.length - i; omega)
      simp (maxSteps:=9^9) only [I10, go_sem, Int.reduceLT, Int.reduceLE, Int.reduceEq, Int.reduceNe, Int.reduceAdd, Int.reduceSub, Int.reduceMul, Int.reduceToNat, Int.reduceNeg, Nat.reduceEqDiff, Nat.reduceLeDiff, Nat.reduceSub, Nat.reduceMul, Nat.reduceLT, Nat.reduceBEq, Nat.reduceAdd, Nat.reduceDiv, Nat.reduceMod]
      rfl
    have k3 : ¬ k = 105 := fun e => n105 (by rw [e]; rfl)
    refine nd_intro (by rw [bsOf_size]; omega) ?_
    intro m hm1 c4 hc4
    have hmk : m = k.toNat := by
     rw [hm1]
     simp [bsOf, List.getD_eq_getElem?_getD, hkk]
    clear hm1
    subst hmk
    refine swd9 hc4 (fun e99 => ?_) (fun n110 => ?_)
    ·have k9 := keq 110 e99
     intro c5 hc5
     refine swd9 hc5 (fun hd => ?_) (fun hd => ?_)
     ·refine ⟨fun _ => by omega, fun _ => swd9 hc5 (fun _ => ?_) (fun e => absurd hd e)⟩
      rintro _ _ m2 hm2
      rw [w64 (by omega)] at hm2
      subst hm2
      refine lpE_intro (A := A10 w0 ws ks) (⟨i + 1, { c with keys := c.keys ++ [ByteArray.empty] }⟩ : G10) ?_ ⟨good _ (by unfold stepC; rw [if_neg k1, if_neg k2, if_neg k3, if_pos ⟨k9, hd⟩]), by show i + 1 ≤ ws.length; omega, by show (c.keys ++ [ByteArray.empty]).length ≤ i + 1; rw [List.length_append]; simp; omega, by show c.ints.length ≤ i + 1; omega, g5, g6⟩ (by show ws.length - (i + 1) < ws.length - i; omega)
      simp (maxSteps:=9^9) only [I10, go_sem, Int.reduceLT, Int.reduceLE, Int.reduceEq, Int.reduceNe, Int.reduceAdd, Int.reduceSub, Int.reduceMul, Int.reduceToNat, Int.reduceNeg, Nat.reduceEqDiff, Nat.reduceLeDiff, Nat.reduceSub, Nat.reduceMul, Nat.reduceLT, Nat.reduceBEq, Nat.reduceAdd, Nat.reduceDiv, Nat.reduceMod]
      rfl
     refine use30 (by omega) (fun hnn => ?_) (fun l hl30 => ?_)
     ·simp (maxSteps:=9^9) only [go_sem, Int.reduceLT, Int.reduceLE, Int.reduceEq, Int.reduceNe, Int.reduceAdd, Int.reduceSub, Int.reduceMul, Int.reduceToNat, Int.reduceNeg, Nat.reduceEqDiff, Nat.reduceLeDiff, Nat.reduceSub, Nat.reduceMul, Nat.reduceLT, Nat.reduceBEq, Nat.reduceAdd, Nat.reduceDiv, Nat.reduceMod]
      exact ⟨fun _ => by omega, fun _ => bad (by unfold stepC; rw [if_neg k1, if_neg k2, if_neg k3, if_neg (fun e => hd e.2), hnn])⟩
     ·simp (maxSteps:=9^9) only [go_sem, Int.reduceLT, Int.reduceLE, Int.reduceEq, Int.reduceNe, Int.reduceAdd, Int.reduceSub, Int.reduceMul, Int.reduceToNat, Int.reduceNeg, Nat.reduceEqDiff, Nat.reduceLeDiff, Nat.reduceSub, Nat.reduceMul, Nat.reduceLT, Nat.reduceBEq, Nat.reduceAdd, Nat.reduceDiv, Nat.reduceMod]
      refine ⟨fun _ => by omega, fun _ => ?_⟩
      cases hko : keyOk (bsOf l) with
      | false =>
       simp (maxSteps:=9^9) only [go_sem, Int.reduceLT, Int.reduceLE, Int.reduceEq, Int.reduceNe, Int.reduceAdd, Int.reduceSub, Int.reduceMul, Int.reduceToNat, Int.reduceNeg, Nat.reduceEqDiff, Nat.reduceLeDiff, Nat.reduceSub, Nat.reduceMul, Nat.reduceLT, Nat.reduceBEq, Nat.reduceAdd, Nat.reduceDiv, Nat.reduceMod]
       exact bad (by unfold stepC; rw [if_neg k1, if_neg k2, if_neg k3, if_neg (fun e => hd e.2), hl30]; simp [hko])
      | true =>
       simp (maxSteps:=9^9) only [go_sem, Int.reduceLT, Int.reduceLE, Int.reduceEq, Int.reduceNe, Int.reduceAdd, Int.reduceSub, Int.reduceMul, Int.reduceToNat, Int.reduceNeg, Nat.reduceEqDiff, Nat.reduceLeDiff, Nat.reduceSub, Nat.reduceMul, Nat.reduceLT, Nat.reduceBEq, Nat.reduceAdd, Nat.reduceDiv, Nat.reduceMod]
       rintro _ _ m2 hm2
       rw [w64 (by omega)] at hm2
       subst hm2
       refine lpE_intro (A := A10 w0 ws ks) (⟨i + 1, { c with keys := c.keys ++ [bsOf l] }⟩ : G10) ?_ ⟨good _ (by unfold stepC; rw [if_neg k1, if_neg k2, if_neg k3, if_neg (fun e => hd e.2), hl30]; simp [hko]), by show i + 1 ≤ ws.length; omega, by show (c.keys ++ [bsOf l]).length ≤ i + 1; rw [List.length_append]; simp; omega, by show c.ints.length ≤ i + 1; omega, g5, g6⟩ (by show ws.length - (i + 1) < ws.length - i; omega)
       simp (maxSteps:=9^9) only [I10, go_sem, Int.reduceLT, Int.reduceLE, Int.reduceEq, Int.reduceNe, Int.reduceAdd, Int.reduceSub, Int.reduceMul, Int.reduceToNat, Int.reduceNeg, Nat.reduceEqDiff, Nat.reduceLeDiff, Nat.reduceSub, Nat.reduceMul, Nat.reduceLT, Nat.reduceBEq, Nat.reduceAdd, Nat.reduceDiv, Nat.reduceMod]
       rfl
    have k4 : ¬ k = 110 := fun e => n110 (by rw [e]; rfl)
    refine use30 (by omega) (fun hnn => ?_) (fun l hl30 => ?_)
    ·simp (maxSteps:=9^9) only [go_sem, Int.reduceLT, Int.reduceLE, Int.reduceEq, Int.reduceNe, Int.reduceAdd, Int.reduceSub, Int.reduceMul, Int.reduceToNat, Int.reduceNeg, Nat.reduceEqDiff, Nat.reduceLeDiff, Nat.reduceSub, Nat.reduceMul, Nat.reduceLT, Nat.reduceBEq, Nat.reduceAdd, Nat.reduceDiv, Nat.reduceMod]
     exact ⟨fun _ => by omega, fun _ => bad (by unfold stepC; rw [if_neg k1, if_neg k2, if_neg k3, if_neg (fun e => k4 e.1), hnn])⟩
    ·simp (maxSteps:=9^9) only [go_sem, Int.reduceLT, Int.reduceLE, Int.reduceEq, Int.reduceNe, Int.reduceAdd, Int.reduceSub, Int.reduceMul, Int.reduceToNat, Int.reduceNeg, Nat.reduceEqDiff, Nat.reduceLeDiff, Nat.reduceSub, Nat.reduceMul, Nat.reduceLT, Nat.reduceBEq, Nat.reduceAdd, Nat.reduceDiv, Nat.reduceMod]
     refine ⟨fun _ => by omega, fun _ => ?_⟩
     cases hko : keyOk (bsOf l) with
     | false =>
      simp (maxSteps:=9^9) only [go_sem, Int.reduceLT, Int.reduceLE, Int.reduceEq, Int.reduceNe, Int.reduceAdd, Int.reduceSub, Int.reduceMul, Int.reduceToNat, Int.reduceNeg, Nat.reduceEqDiff, Nat.reduceLeDiff, Nat.reduceSub, Nat.reduceMul, Nat.reduceLT, Nat.reduceBEq, Nat.reduceAdd, Nat.reduceDiv, Nat.reduceMod]
      exact bad (by unfold stepC; rw [if_neg k1, if_neg k2, if_neg k3, if_neg (fun e => k4 e.1), hl30]; simp [hko])
     | true =>
      simp (maxSteps:=9^9) only [go_sem, Int.reduceLT, Int.reduceLE, Int.reduceEq, Int.reduceNe, Int.reduceAdd, Int.reduceSub, Int.reduceMul, Int.reduceToNat, Int.reduceNeg, Nat.reduceEqDiff, Nat.reduceLeDiff, Nat.reduceSub, Nat.reduceMul, Nat.reduceLT, Nat.reduceBEq, Nat.reduceAdd, Nat.reduceDiv, Nat.reduceMod]
      rintro _ _ m2 hm2
      rw [w64 (by omega)] at hm2
      subst hm2
      refine lpE_intro (A := A10 w0 ws ks) (⟨i + 1, { c with keys := c.keys ++ [bsOf l] }⟩ : G10) ?_ ⟨good _ (by unfold stepC; rw [if_neg k1, if_neg k2, if_neg k3, if_neg (fun e => k4 e.1), hl30]; simp [hko]), by show i + 1 ≤ ws.length; omega, by show (c.keys ++ [bsOf l]).length ≤ i + 1; rw [List.length_append]; simp; omega, by show c.ints.length ≤ i + 1; omega, g5, g6⟩ (by show ws.length - (i + 1) < ws.length - i; omega)
      simp (maxSteps:=9^9) only [I10, go_sem, Int.reduceLT, Int.reduceLE, Int.reduceEq, Int.reduceNe, Int.reduceAdd, Int.reduceSub, Int.reduceMul, Int.reduceToNat, Int.reduceNeg, Nat.reduceEqDiff, Nat.reduceLeDiff, Nat.reduceSub, Nat.reduceMul, Nat.reduceLT, Nat.reduceBEq, Nat.reduceAdd, Nat.reduceDiv, Nat.reduceMod]
      rfl
   ·have hi : i = ws.length := by omega
    subst hi
    rw [List.drop_length, hlen, List.drop_length] at g1
    exact h2 c (by rw [← g1]; rfl)
 ·exact h.elim
end Go.V
namespace Go.V
open Go.Proofs
set_option maxRecDepth 100000
set_option maxHeartbeats 4000000
set_option linter.unusedSimpArgs false
set_option linter.unnecessarySimpa false
set_option linter.unusedVariables false
def shapeR (w : ByteArray) : ByteArray :=
 if w = ⟨#[111, 102, 102, 101, 114]⟩ then ⟨#[99, 115, 107, 105, 97, 97, 97, 97]⟩ else
 if w = ⟨#[116, 105, 99, 107]⟩ then ⟨#[105]⟩ else
 if w = ⟨#[112, 105, 99, 107]⟩ ∨ w = ⟨#[114, 101, 108, 97, 121]⟩ ∨ w = ⟨#[112, 97, 114, 100, 111, 110]⟩ ∨ w = ⟨#[115, 116, 97, 116, 101]⟩ ∨ w = ⟨#[109, 97, 105, 108]⟩ then ⟨#[107]⟩ else
 if w = ⟨#[114, 101, 109, 105, 110, 100]⟩ then ⟨#[107, 110, 105, 105, 105]⟩ else
 if w = ⟨#[99, 97, 110, 99, 101, 108]⟩ then ⟨#[107, 110]⟩ else
 if w = ⟨#[115, 101, 114, 118, 101]⟩ ∨ w = ⟨#[99, 104, 101, 99, 107, 112, 111, 105, 110, 116]⟩ ∨ w = ⟨#[107, 101, 121, 115]⟩ ∨ w = ⟨#[99, 108, 111, 99, 107]⟩ then ByteArray.empty else ⟨#[63]⟩
def C32 : Contract := fun args hp K => match args, hp with
 | [.str w], [] => K (.str (shapeR w)) []
 | _, _ => False
attribute [local irreducible] rc
theorem s32 : Sound Tryz.prog 32 C32 := by
 refine sound_of_okF ok32 .nil ?_
 intro args hp K h
 unfold C32 at h
 split at h
 ·rename_i w
  refine ⟨by simp, [], ?_⟩
  simp (maxSteps:=9^9) only [a32, r32, go_sem, Int.reduceLT, Int.reduceLE, Int.reduceEq, Int.reduceNe, Int.reduceAdd, Int.reduceSub, Int.reduceMul, Int.reduceToNat, Int.reduceNeg, Nat.reduceEqDiff, Nat.reduceLeDiff, Nat.reduceSub, Nat.reduceMul, Nat.reduceLT, Nat.reduceBEq, Nat.reduceAdd, Nat.reduceDiv, Nat.reduceMod]
  intro c hc
  refine swd9 hc (fun e => (by unfold shapeR at h; rw [if_pos e] at h; exact h)) (fun n1 => ?_)
  intro c hc
  refine swd9 hc (fun e => (by unfold shapeR at h; rw [if_neg n1, if_pos e] at h; exact h)) (fun n2 => ?_)
  intro c hc
  refine swd9 hc (fun e => swd9 hc (fun _ => (by unfold shapeR at h; rw [if_neg n1, if_neg n2, if_pos (.inl e)] at h; exact h)) (fun e' => absurd e e')) (fun n30 => ?_)
  intro c hc
  refine swd9 hc (fun e => swd9 hc (fun _ => (by unfold shapeR at h; rw [if_neg n1, if_neg n2, if_pos (.inr (.inl e))] at h; exact h)) (fun e' => absurd e e')) (fun n31 => ?_)
  intro c hc
  refine swd9 hc (fun e => swd9 hc (fun _ => (by unfold shapeR at h; rw [if_neg n1, if_neg n2, if_pos (.inr (.inr (.inl e)))] at h; exact h)) (fun e' => absurd e e')) (fun n32 => ?_)
  intro c hc
  refine swd9 hc (fun e => swd9 hc (fun _ => (by unfold shapeR at h; rw [if_neg n1, if_neg n2, if_pos (.inr (.inr (.inr (.inl e))))] at h; exact h)) (fun e' => absurd e e')) (fun n33 => ?_)
  intro c hc
  refine swd9 hc (fun e => (by unfold shapeR at h; rw [if_neg n1, if_neg n2, if_pos (.inr (.inr (.inr (.inr e))))] at h; exact h)) (fun n34 => ?_)
  have n3 : ¬ _ := fun e => Or.elim e n30 (fun e => Or.elim e n31 (fun e => Or.elim e n32 (fun e => Or.elim e n33 n34)))
  intro c hc
  refine swd9 hc (fun e => (by unfold shapeR at h; rw [if_neg n1, if_neg n2, if_neg n3, if_pos e] at h; exact h)) (fun n4 => ?_)
  intro c hc
  refine swd9 hc (fun e => (by unfold shapeR at h; rw [if_neg n1, if_neg n2, if_neg n3, if_neg n4, if_pos e] at h; exact h)) (fun n5 => ?_)
  intro c hc
  refine swd9 hc (fun e => swd9 hc (fun _ => (by unfold shapeR at h; rw [if_neg n1, if_neg n2, if_neg n3, if_neg n4, if_neg n5, if_pos (.inl e)] at h; exact h)) (fun e' => absurd e e')) (fun n60 => ?_)
  intro c hc
  refine swd9 hc (fun e => swd9 hc (fun _ => (by unfold shapeR at h; rw [if_neg n1, if_neg n2, if_neg n3, if_neg n4, if_neg n5, if_pos (.inr (.inl e))] at h; exact h)) (fun e' => absurd e e')) (fun n61 => ?_)
  intro c hc
  refine swd9 hc (fun e => swd9 hc (fun _ => (by unfold shapeR at h; rw [if_neg n1, if_neg n2, if_neg n3, if_neg n4, if_neg n5, if_pos (.inr (.inr (.inl e)))] at h; exact h)) (fun e' => absurd e e')) (fun n62 => ?_)
  intro c hc
  refine swd9 hc (fun e => (by unfold shapeR at h; rw [if_neg n1, if_neg n2, if_neg n3, if_neg n4, if_neg n5, if_pos (.inr (.inr (.inr e)))] at h; exact h)) (fun n63 => ?_)
  have n6 : ¬ _ := fun e => Or.elim e n60 (fun e => Or.elim e n61 (fun e => Or.elim e n62 n63))
  unfold shapeR at h
  rw [if_neg n1, if_neg n2, if_neg n3, if_neg n4, if_neg n5, if_neg n6] at h
  exact h
 ·exact h.elim
def C74 : Contract := fun args hp K => match args, hp with
 | [.str s], [] => s.size ≤ 100000 ∧ (s = ⟨#[45]⟩ → K (.tup [.str ByteArray.empty, .bool true]) []) ∧ (¬ s = ⟨#[45]⟩ → (unhexF s = none → ∀ t : ByteArray, t.size ≤ 100000 → K (.tup [.str t, .bool false]) []) ∧ (∀ l, unhexF s = some l → K (.tup [.str (bsOf l), .bool (keyOk (bsOf l))]) []))
 | _, _ => False
theorem s74 : Sound Tryz.prog 74 C74 := by
 refine sound_of_okF ok74 (.cons s73 (callable_of_okF ok73) .nil) ?_
 intro args hp K h
 unfold C74 at h
 split at h
 ·rename_i s
  obtain ⟨hs, h1, h2⟩ := h
  refine ⟨by simp, [], ?_⟩
  simp (maxSteps:=9^9) only [a74, r74, go_sem, Int.reduceLT, Int.reduceLE, Int.reduceEq, Int.reduceNe, Int.reduceAdd, Int.reduceSub, Int.reduceMul, Int.reduceToNat, Int.reduceNeg, Nat.reduceEqDiff, Nat.reduceLeDiff, Nat.reduceSub, Nat.reduceMul, Nat.reduceLT, Nat.reduceBEq, Nat.reduceAdd, Nat.reduceDiv, Nat.reduceMod]
  intro c hc
  refine swd9 hc (fun e => h1 e) (fun e => ?_)
  obtain ⟨h3, h4⟩ := h2 e
  refine ⟨hs, fun hn t ht => ?_, fun l hl => ?_⟩
  ·simp (maxSteps:=9^9) only [go_sem, Int.reduceLT, Int.reduceLE, Int.reduceEq, Int.reduceNe, Int.reduceAdd, Int.reduceSub, Int.reduceMul, Int.reduceToNat, Int.reduceNeg, Nat.reduceEqDiff, Nat.reduceLeDiff, Nat.reduceSub, Nat.reduceMul, Nat.reduceLT, Nat.reduceBEq, Nat.reduceAdd, Nat.reduceDiv, Nat.reduceMod]
   exact h3 hn t ht
  ·simp (maxSteps:=9^9) only [go_sem, Int.reduceLT, Int.reduceLE, Int.reduceEq, Int.reduceNe, Int.reduceAdd, Int.reduceSub, Int.reduceMul, Int.reduceToNat, Int.reduceNeg, Nat.reduceEqDiff, Nat.reduceLeDiff, Nat.reduceSub, Nat.reduceMul, Nat.reduceLT, Nat.reduceBEq, Nat.reduceAdd, Nat.reduceDiv, Nat.reduceMod]
   exact h4 l hl
 ·exact h.elim
end Go.V
namespace Go.V
open Go.Proofs
set_option maxRecDepth 100000
set_option maxHeartbeats 4000000
set_option linter.unusedSimpArgs false
set_option linter.unnecessarySimpa false
set_option linter.unusedVariables false
theorem splitL_app {c : UInt8} : ∀ {w r : List UInt8}, w.contains c = false → splitL c (w ++ c :: r) = w :: splitL c r
 | [], r, _ => splitL_eq rfl
 | x :: w, r, h => by
  simp only [List.contains_cons, Bool.or_eq_false_iff] at h
  have hx : ¬ x = c := fun e => by subst e; simp at h
  exact splitL_ne hx (splitL_app h.2)
theorem extract_bs (s : ByteArray) (f i : Nat) : s.extract f i = bsOf ((s.data.toList.drop f).take (i - f)) := by
 apply ByteArray.ext
 apply Array.ext'
 simp [bsOf, ByteArray.data_extract, Array.toList_extract, List.extract_eq_take_drop]
structure G31 where
 f : Nat
 i : Nat
 out : List ByteArray
def R31 (s : ByteArray) (g : G31) : Prop :=
 (g.i ≤ s.size ∧ g.f ≤ g.i ∧ g.out ++ (splitL 32 (s.data.toList.drop g.f)).map bsOf = wordsB s ∧ ((s.data.toList.drop g.f).take (g.i - g.f)).contains 32 = false ∧ g.out.length ≤ g.i) ∨ (g.i = s.size + 1 ∧ g.f = s.size + 1 ∧ g.out = wordsB s)
def A31 (s : ByteArray) : LoopAnn := {
 G := G31
 I := fun g => ⟨[(0, .str s), (3, .own 0), (4, .int .i64 g.f), (5, .int .i64 g.i)], [.row true 16 .str g.out]⟩
 R := fun _ g => R31 s g
 μ := fun g => s.size + 1 - g.i }
theorem I31 (s) (g : G31) : (A31 s).I g = ⟨[(0, .str s), (3, .own 0), (4, .int .i64 g.f), (5, .int .i64 g.i)], [.row true 16 .str g.out]⟩ := rfl
def C31 : Contract := fun args hp K => match args, hp with
 | [.str s], [] => s.size ≤ 100000 ∧ K (.own 0) [.row true 16 .str (wordsB s)]
 | _, _ => False
attribute [local irreducible] rc
theorem s31 : Sound Tryz.prog 31 C31 := by
 refine sound_of_okF ok31 .nil ?_
 intro args hp K h
 unfold C31 at h
 split at h
 ·rename_i s
  obtain ⟨hs, h⟩ := h
  refine ⟨by simp, [(1, A31 s)], ?_⟩
  have hm := maxLen_val
  simp (maxSteps:=9^9) only [a31, r31, go_sem, Int.reduceLT, Int.reduceLE, Int.reduceEq, Int.reduceNe, Int.reduceAdd, Int.reduceSub, Int.reduceMul, Int.reduceToNat, Int.reduceNeg, Nat.reduceEqDiff, Nat.reduceLeDiff, Nat.reduceSub, Nat.reduceMul, Nat.reduceLT, Nat.reduceBEq, Nat.reduceAdd, Nat.reduceDiv, Nat.reduceMod]
  refine loop_intro (A := A31 s) (⟨0, 0, []⟩ : G31) ?_ (.inl ⟨Nat.zero_le _, Nat.le_refl _, by simp [wordsB], by simp, by simp⟩) ?_
  ·simp (maxSteps:=9^9) only [I31, go_sem, Int.reduceLT, Int.reduceLE, Int.reduceEq, Int.reduceNe, Int.reduceAdd, Int.reduceSub, Int.reduceMul, Int.reduceToNat, Int.reduceNeg, Nat.reduceEqDiff, Nat.reduceLeDiff, Nat.reduceSub, Nat.reduceMul, Nat.reduceLT, Nat.reduceBEq, Nat.reduceAdd, Nat.reduceDiv, Nat.reduceMod]
   rfl
  rintro ⟨f, i, out⟩ hR
  simp (maxSteps:=9^9) only [I31, go_sem, Int.reduceLT, Int.reduceLE, Int.reduceEq, Int.reduceNe, Int.reduceAdd, Int.reduceSub, Int.reduceMul, Int.reduceToNat, Int.reduceNeg, Nat.reduceEqDiff, Nat.reduceLeDiff, Nat.reduceSub, Nat.reduceMul, Nat.reduceLT, Nat.reduceBEq, Nat.reduceAdd, Nat.reduceDiv, Nat.reduceMod]
  intro _ m hm1 c hc
  refine swd9 hc (fun hle => ?_) (fun hgt => ?_)
  ·rcases hR with ⟨g1, g2, g3, g4, g5⟩ | ⟨g1, g2, g3⟩
   ·change i ≤ s.size at g1
    change f ≤ i at g2
    change out ++ (splitL 32 (s.data.toList.drop f)).map bsOf = wordsB s at g3
    change ((s.data.toList.drop f).take (i - f)).contains 32 = false at g4
    change out.length ≤ i at g5
    have hlen : s.data.toList.length = s.size := by simp
    rintro _ m2 hm2 c2 hc2
    refine swd9 hc2 (fun hie => ?_) (fun hine => ?_)
    ·have his : i = s.size := by omega
     refine nd_intro ⟨g2, g1⟩ ?_
     rintro u rfl
     refine ⟨fun _ => by omega, fun _ => ?_⟩
     rintro _ _ m3 hm3 _ _ m4 hm4
     rw [w64 (by omega)] at hm3 hm4
     subst hm3 hm4
     have hall : (s.data.toList.drop f).take (i - f) = s.data.toList.drop f := List.take_of_length_le (by rw [List.length_drop, hlen]; omega)
     rw [hall] at g4
     rw [splitL_miss g4] at g3
     refine lpE_intro (A := A31 s) (⟨i + 1, i + 1, out ++ [s.extract f i]⟩ : G31) ?_ (.inr ⟨by show i + 1 = _; omega, by show i + 1 = _; omega, by show out ++ [s.extract f i] = wordsB s; rw [extract_bs, hall, ← g3]; rfl⟩) (by show s.size + 1 - (i + 1) < s.size + 1 - i; omega)
     simp (maxSteps:=9^9) only [I31, go_sem, Int.reduceLT, Int.reduceLE, Int.reduceEq, Int.reduceNe, Int.reduceAdd, Int.reduceSub, Int.reduceMul, Int.reduceToNat, Int.reduceNeg, Nat.reduceEqDiff, Nat.reduceLeDiff, Nat.reduceSub, Nat.reduceMul, Nat.reduceLT, Nat.reduceBEq, Nat.reduceAdd, Nat.reduceDiv, Nat.reduceMod]
     rfl
    ·have hlt : i < s.size := by omega
     refine nd_intro hlt ?_
     intro m5 hm5 c5 hc5
     have hget : s.data.toList[i]? = some (s.data.toList.getD i 0) := by
      rw [List.getD_eq_getElem?_getD, List.getElem?_eq_getElem (by rw [hlen]; exact hlt)]; rfl
     have hsplit : s.data.toList.drop i = s.data.toList.getD i 0 :: s.data.toList.drop (i + 1) := by
      rw [List.drop_eq_getElem_cons (by rw [hlen]; exact hlt)]
      congr 1
      rw [List.getElem?_eq_getElem (by rw [hlen]; exact hlt)] at hget
      exact Option.some.inj hget
     have hdf : s.data.toList.drop f = (s.data.toList.drop f).take (i - f) ++ s.data.toList.drop i := by
      have e := List.take_append_drop (i - f) (s.data.toList.drop f)
      rw [List.drop_drop, Nat.add_sub_cancel' g2] at e
      exact e.symm
     refine swd9 hc5 (fun h32 => ?_) (fun hn32 => ?_)
     ·have e32 : s.data.toList.getD i 0 = 32 := UInt8.toNat_inj.1 (by have : (32 : UInt8).toNat = 32 := rfl; omega)
      refine nd_intro ⟨g2, g1⟩ ?_
      rintro u rfl
      refine ⟨fun _ => by omega, fun _ => ?_⟩
      rintro _ _ m3 hm3 _ _ m4 hm4
      rw [w64 (by omega)] at hm3 hm4
      subst hm3 hm4
      rw [hdf, hsplit, e32, splitL_app g4] at g3
      refine lpE_intro (A := A31 s) (⟨i + 1, i + 1, out ++ [s.extract f i]⟩ : G31) ?_ (.inl ⟨hlt, Nat.le_refl _, by show (out ++ [s.extract f i]) ++ (splitL 32 (s.data.toList.drop (i + 1))).map bsOf = wordsB s; rw [extract_bs, ← g3]; simp, by show ((s.data.toList.drop (i + 1)).take ((i + 1) - (i + 1))).contains 32 = false; rw [Nat.sub_self]; rfl, by show (out ++ [s.extract f i]).length ≤ i + 1; rw [List.length_append]; simp; omega⟩) (by show s.size + 1 - (i + 1) < s.size + 1 - i; omega)
      simp (maxSteps:=9^9) only [I31, go_sem, Int.reduceLT, Int.reduceLE, Int.reduceEq, Int.reduceNe, Int.reduceAdd, Int.reduceSub, Int.reduceMul, Int.reduceToNat, Int.reduceNeg, Nat.reduceEqDiff, Nat.reduceLeDiff, Nat.reduceSub, Nat.reduceMul, Nat.reduceLT, Nat.reduceBEq, Nat.reduceAdd, Nat.reduceDiv, Nat.reduceMod]
      rfl
     ·have en : ¬ s.data.toList.getD i 0 = 32 := fun e => hn32 (by rw [hm5, e]; rfl)
      rintro _ _ m3 hm3
      rw [w64 (by omega)] at hm3
      subst hm3
      have hc1 : ([s.data.toList.getD i 0] : List UInt8).contains 32 = false := by
       generalize s.data.toList.getD i 0 = y at en ⊢
       simpa using fun e : (32 : UInt8) = y => en e.symm
      have htk : (s.data.toList.drop f).take (i + 1 - f) = (s.data.toList.drop f).take (i - f) ++ [s.data.toList.getD i 0] := by
       rw [show i + 1 - f = (i - f) + 1 by omega, List.take_add_one, List.getElem?_drop, Nat.add_sub_cancel' g2, hget]
       rfl
      refine lpE_intro (A := A31 s) (⟨f, i + 1, out⟩ : G31) ?_ (.inl ⟨hlt, by show f ≤ i + 1; omega, g3, by show ((s.data.toList.drop f).take (i + 1 - f)).contains 32 = false; rw [htk, List.contains_append, g4, hc1]; rfl, by show out.length ≤ i + 1; omega⟩) (by show s.size + 1 - (i + 1) < s.size + 1 - i; omega)
      simp (maxSteps:=9^9) only [I31, go_sem, Int.reduceLT, Int.reduceLE, Int.reduceEq, Int.reduceNe, Int.reduceAdd, Int.reduceSub, Int.reduceMul, Int.reduceToNat, Int.reduceNeg, Nat.reduceEqDiff, Nat.reduceLeDiff, Nat.reduceSub, Nat.reduceMul, Nat.reduceLT, Nat.reduceBEq, Nat.reduceAdd, Nat.reduceDiv, Nat.reduceMod]
      rfl
   ·change i = s.size + 1 at g1
    omega
  ·rcases hR with ⟨g1, g2, g3, g4, g5⟩ | ⟨g1, g2, g3⟩
   ·change i ≤ s.size at g1
    omega
   ·change out = wordsB s at g3
    subst g3
    exact h
 ·exact h.elim
end Go.V
namespace Go.V
open Go.Proofs
set_option maxRecDepth 100000
set_option maxHeartbeats 8000000
set_option linter.unusedSimpArgs false
set_option linter.unnecessarySimpa false
set_option linter.unusedVariables false
def cmdG (a b : Bool) (c : Cmd) : List SB := [.struct [.str c.word, .own 1, .int .u64 c.client, .int .u64 c.serial, .own 2], .row a 16 .str c.keys, .row b 8 (.int .i64) c.ints]
def stepR (k : UInt8) (s : ByteArray) (c : Cmd) : Option Cmd := if k = 97 then stepC 105 s c else stepC k s c
def kindR (k : UInt8) : Prop := k = 99 ∨ k = 115 ∨ k = 107 ∨ k = 110 ∨ k = 105 ∨ k = 97
def C33 : Contract := fun args hp K => match args with
 | [.ptr 0 0, .int .u8 m, .str s] => ∃ (k : UInt8) (c : Cmd), m = k.toNat ∧ kindR k ∧ hp = cmdG false false c ∧ (s.size ≤ 100000 ∧ c.keys.length ≤ 1000000 ∧ c.ints.length ≤ 1000000) ∧
   (stepR k s c = none → ∀ (c2 : Cmd) (a b : Bool), K (.bool false) (cmdG a b c2)) ∧ (∀ c', stepR k s c = some c' → ∀ a b : Bool, K (.bool true) (cmdG a b c'))
 | _ => False
section use
variable {K : SV → List SB → Prop}
theorem use72r {x : ByteArray} (hx : x.size ≤ 100000) (h0 : natF x.data.toList = none → K (.tup [.int .u64 0, .bool false]) []) (h1 : ∀ v : Nat, natF x.data.toList = some v → K (.tup [.int .u64 v, .bool true]) []) : C72 [.str x] [] K := ⟨hx, h0, h1⟩
theorem use75 {x : ByteArray} (hx : x.size ≤ 100000) (h0 : numI x.data.toList = none → K (.tup [.int .i64 0, .bool false]) []) (h1 : ∀ v : Int, numI x.data.toList = some v → K (.tup [.int .i64 v, .bool true]) []) : C75 [.str x] [] K := ⟨hx, h0, h1⟩
theorem use73 {x : ByteArray} (hx : x.size ≤ 100000) (h0 : unhexF x = none → ∀ t : ByteArray, t.size ≤ 100000 → K (.tup [.str t, .bool false]) []) (h1 : ∀ l, unhexF x = some l → K (.tup [.str (bsOf l), .bool (keyOk (bsOf l))]) []) : C73 [.str x] [] K := ⟨hx, h0, h1⟩
theorem use74 {x : ByteArray} (hx : x.size ≤ 100000) (hd : x = ⟨#[45]⟩ → K (.tup [.str ByteArray.empty, .bool true]) []) (h0 : ¬ x = ⟨#[45]⟩ → unhexF x = none → ∀ t : ByteArray, t.size ≤ 100000 → K (.tup [.str t, .bool false]) []) (h1 : ¬ x = ⟨#[45]⟩ → ∀ l, unhexF x = some l → K (.tup [.str (bsOf l), .bool (keyOk (bsOf l))]) []) : C74 [.str x] [] K := ⟨hx, hd, fun e => ⟨h0 e, h1 e⟩⟩
end use
attribute [local irreducible] rc C72 C73 C74 C75
theorem s33 : Sound Tryz.prog 33 C33 := by
 refine sound_of_okF ok33 (.cons s72 (callable_of_okF ok72) (.cons s73 (callable_of_okF ok73) (.cons s74 (callable_of_okF ok74) (.cons s75 (callable_of_okF ok75) .nil)))) ?_
 intro args hp K h
 unfold C33 at h
 split at h
 ·rename_i m s
  obtain ⟨k, c, rfl, hk, rfl, ⟨hs, hkl, hil⟩, h0, h1⟩ := h
  refine ⟨by simp [cmdG], [], ?_⟩
  have hm := maxLen_val
  have keq : ∀ n : UInt8, (k.toNat : Int) = n.toNat → k = n := fun n e => UInt8.toNat_inj.1 (by omega)
  simp (maxSteps:=9^9) only [a33, r33, cmdG, go_sem, Int.reduceLT, Int.reduceLE, Int.reduceEq, Int.reduceNe, Int.reduceAdd, Int.reduceSub, Int.reduceMul, Int.reduceToNat, Int.reduceNeg, Nat.reduceEqDiff, Nat.reduceLeDiff, Nat.reduceSub, Nat.reduceMul, Nat.reduceLT, Nat.reduceBEq, Nat.reduceAdd, Nat.reduceDiv, Nat.reduceMod]
  intro c99 hc99
  refine swd9 hc99 (fun e => ?_) (fun n99 => ?_)
  ·have k9 := keq 99 e
   subst k9
   refine use72r hs (fun hn => ?_) (fun v hv => ?_)
   ·simp (maxSteps:=9^9) only [go_sem, Int.reduceLT, Int.reduceLE, Int.reduceEq, Int.reduceNe, Int.reduceAdd, Int.reduceSub, Int.reduceMul, Int.reduceToNat, Int.reduceNeg, Nat.reduceEqDiff, Nat.reduceLeDiff, Nat.reduceSub, Nat.reduceMul, Nat.reduceLT, Nat.reduceBEq, Nat.reduceAdd, Nat.reduceDiv, Nat.reduceMod]
    exact h0 (by unfold stepR stepC; simp [hn]) { c with client := 0 } _ _
   ·simp (maxSteps:=9^9) only [go_sem, Int.reduceLT, Int.reduceLE, Int.reduceEq, Int.reduceNe, Int.reduceAdd, Int.reduceSub, Int.reduceMul, Int.reduceToNat, Int.reduceNeg, Nat.reduceEqDiff, Nat.reduceLeDiff, Nat.reduceSub, Nat.reduceMul, Nat.reduceLT, Nat.reduceBEq, Nat.reduceAdd, Nat.reduceDiv, Nat.reduceMod]
    exact h1 { c with client := v } (by unfold stepR stepC; simp [hv]) _ _
  have q99 : ¬ k = 99 := fun e => n99 (by rw [e]; rfl)
  intro c115 hc115
  refine swd9 hc115 (fun e => ?_) (fun n115 => ?_)
  ·have k9 := keq 115 e
   subst k9
   refine use72r hs (fun hn => ?_) (fun v hv => ?_)
   ·simp (maxSteps:=9^9) only [go_sem, Int.reduceLT, Int.reduceLE, Int.reduceEq, Int.reduceNe, Int.reduceAdd, Int.reduceSub, Int.reduceMul, Int.reduceToNat, Int.reduceNeg, Nat.reduceEqDiff, Nat.reduceLeDiff, Nat.reduceSub, Nat.reduceMul, Nat.reduceLT, Nat.reduceBEq, Nat.reduceAdd, Nat.reduceDiv, Nat.reduceMod]
    exact h0 (by unfold stepR stepC; simp [hn]) { c with serial := 0 } _ _
   ·simp (maxSteps:=9^9) only [go_sem, Int.reduceLT, Int.reduceLE, Int.reduceEq, Int.reduceNe, Int.reduceAdd, Int.reduceSub, Int.reduceMul, Int.reduceToNat, Int.reduceNeg, Nat.reduceEqDiff, Nat.reduceLeDiff, Nat.reduceSub, Nat.reduceMul, Nat.reduceLT, Nat.reduceBEq, Nat.reduceAdd, Nat.reduceDiv, Nat.reduceMod]
    exact h1 { c with serial := v } (by unfold stepR stepC; simp [hv]) _ _
  have q115 : ¬ k = 115 := fun e => n115 (by rw [e]; rfl)
  intro c107 hc107
  refine swd9 hc107 (fun e => swd9 hc107 (fun _ => ?_) (fun e' => absurd e e')) (fun n107 => ?_)
  ·have k9 := keq 107 e
   subst k9
   intro c4 hc4
   refine swd9 hc4 (fun _ => ?_) (fun e' => absurd e e')
   refine use73 hs (fun hn t ht => ?_) (fun l hl => ?_)
   ·simp (maxSteps:=9^9) only [go_sem, Int.reduceLT, Int.reduceLE, Int.reduceEq, Int.reduceNe, Int.reduceAdd, Int.reduceSub, Int.reduceMul, Int.reduceToNat, Int.reduceNeg, Nat.reduceEqDiff, Nat.reduceLeDiff, Nat.reduceSub, Nat.reduceMul, Nat.reduceLT, Nat.reduceBEq, Nat.reduceAdd, Nat.reduceDiv, Nat.reduceMod]
    exact ⟨fun _ => by omega, fun _ => h0 (by unfold stepR stepC; simp [hn]) { c with keys := c.keys ++ [t] } _ _⟩
   ·simp (maxSteps:=9^9) only [go_sem, Int.reduceLT, Int.reduceLE, Int.reduceEq, Int.reduceNe, Int.reduceAdd, Int.reduceSub, Int.reduceMul, Int.reduceToNat, Int.reduceNeg, Nat.reduceEqDiff, Nat.reduceLeDiff, Nat.reduceSub, Nat.reduceMul, Nat.reduceLT, Nat.reduceBEq, Nat.reduceAdd, Nat.reduceDiv, Nat.reduceMod]
    refine ⟨fun _ => by omega, fun _ => ?_⟩
    cases hko : keyOk (bsOf l) with
    | false => exact h0 (by unfold stepR stepC; simp [hl, hko]) { c with keys := c.keys ++ [bsOf l] } _ _
    | true => exact h1 { c with keys := c.keys ++ [bsOf l] } (by unfold stepR stepC; simp [hl, hko]) _ _
  have q107 : ¬ k = 107 := fun e => n107 (by rw [e]; rfl)
  intro c110 hc110
  refine swd9 hc110 (fun e => ?_) (fun n110 => ?_)
  ·have k9 := keq 110 e
   subst k9
   intro c4 hc4
   refine swd9 hc4 (fun e' => absurd e' n107) (fun _ => ?_)
   refine use74 hs (fun hd => ?_) (fun hd hn t ht => ?_) (fun hd l hl => ?_)
   ·simp (maxSteps:=9^9) only [go_sem, Int.reduceLT, Int.reduceLE, Int.reduceEq, Int.reduceNe, Int.reduceAdd, Int.reduceSub, Int.reduceMul, Int.reduceToNat, Int.reduceNeg, Nat.reduceEqDiff, Nat.reduceLeDiff, Nat.reduceSub, Nat.reduceMul, Nat.reduceLT, Nat.reduceBEq, Nat.reduceAdd, Nat.reduceDiv, Nat.reduceMod]
    exact ⟨fun _ => by omega, fun _ => h1 { c with keys := c.keys ++ [ByteArray.empty] } (by unfold stepR stepC; simp [hd]) _ _⟩
   ·simp (maxSteps:=9^9) only [go_sem, Int.reduceLT, Int.reduceLE, Int.reduceEq, Int.reduceNe, Int.reduceAdd, Int.reduceSub, Int.reduceMul, Int.reduceToNat, Int.reduceNeg, Nat.reduceEqDiff, Nat.reduceLeDiff, Nat.reduceSub, Nat.reduceMul, Nat.reduceLT, Nat.reduceBEq, Nat.reduceAdd, Nat.reduceDiv, Nat.reduceMod]
    exact ⟨fun _ => by omega, fun _ => h0 (by unfold stepR stepC; simp [hn, hd]) { c with keys := c.keys ++ [t] } _ _⟩
   ·simp (maxSteps:=9^9) only [go_sem, Int.reduceLT, Int.reduceLE, Int.reduceEq, Int.reduceNe, Int.reduceAdd, Int.reduceSub, Int.reduceMul, Int.reduceToNat, Int.reduceNeg, Nat.reduceEqDiff, Nat.reduceLeDiff, Nat.reduceSub, Nat.reduceMul, Nat.reduceLT, Nat.reduceBEq, Nat.reduceAdd, Nat.reduceDiv, Nat.reduceMod]
    refine ⟨fun _ => by omega, fun _ => ?_⟩
    cases hko : keyOk (bsOf l) with
    | false => exact h0 (by unfold stepR stepC; simp [hl, hko, hd]) { c with keys := c.keys ++ [bsOf l] } _ _
    | true => exact h1 { c with keys := c.keys ++ [bsOf l] } (by unfold stepR stepC; simp [hl, hko, hd]) _ _
  have q110 : ¬ k = 110 := fun e => n110 (by rw [e]; rfl)
  intro c105 hc105
  refine swd9 hc105 (fun e => swd9 hc105 (fun _ => ?_) (fun e' => absurd e e')) (fun n105 => ?_)
  ·have k9 := keq 105 e
   subst k9
   refine use75 hs (fun hn => ?_) (fun v hv => ?_)
   ·simp (maxSteps:=9^9) only [go_sem, Int.reduceLT, Int.reduceLE, Int.reduceEq, Int.reduceNe, Int.reduceAdd, Int.reduceSub, Int.reduceMul, Int.reduceToNat, Int.reduceNeg, Nat.reduceEqDiff, Nat.reduceLeDiff, Nat.reduceSub, Nat.reduceMul, Nat.reduceLT, Nat.reduceBEq, Nat.reduceAdd, Nat.reduceDiv, Nat.reduceMod]
    exact ⟨fun _ => by omega, fun _ => h0 (by unfold stepR stepC; simp [hn]) { c with ints := c.ints ++ [0] } _ _⟩
   ·simp (maxSteps:=9^9) only [go_sem, Int.reduceLT, Int.reduceLE, Int.reduceEq, Int.reduceNe, Int.reduceAdd, Int.reduceSub, Int.reduceMul, Int.reduceToNat, Int.reduceNeg, Nat.reduceEqDiff, Nat.reduceLeDiff, Nat.reduceSub, Nat.reduceMul, Nat.reduceLT, Nat.reduceBEq, Nat.reduceAdd, Nat.reduceDiv, Nat.reduceMod]
    exact ⟨fun _ => by omega, fun _ => h1 { c with ints := c.ints ++ [v] } (by unfold stepR stepC; simp [hv]) _ _⟩
  have q105 : ¬ k = 105 := fun e => n105 (by rw [e]; rfl)
  intro c97 hc97
  refine swd9 hc97 (fun e => ?_) (fun n97 => ?_)
  ·have k9 := keq 97 e
   subst k9
   refine use75 hs (fun hn => ?_) (fun v hv => ?_)
   ·simp (maxSteps:=9^9) only [go_sem, Int.reduceLT, Int.reduceLE, Int.reduceEq, Int.reduceNe, Int.reduceAdd, Int.reduceSub, Int.reduceMul, Int.reduceToNat, Int.reduceNeg, Nat.reduceEqDiff, Nat.reduceLeDiff, Nat.reduceSub, Nat.reduceMul, Nat.reduceLT, Nat.reduceBEq, Nat.reduceAdd, Nat.reduceDiv, Nat.reduceMod]
    exact ⟨fun _ => by omega, fun _ => h0 (by unfold stepR stepC; simp [hn]) { c with ints := c.ints ++ [0] } _ _⟩
   ·simp (maxSteps:=9^9) only [go_sem, Int.reduceLT, Int.reduceLE, Int.reduceEq, Int.reduceNe, Int.reduceAdd, Int.reduceSub, Int.reduceMul, Int.reduceToNat, Int.reduceNeg, Nat.reduceEqDiff, Nat.reduceLeDiff, Nat.reduceSub, Nat.reduceMul, Nat.reduceLT, Nat.reduceBEq, Nat.reduceAdd, Nat.reduceDiv, Nat.reduceMod]
    exact ⟨fun _ => by omega, fun _ => h1 { c with ints := c.ints ++ [v] } (by unfold stepR stepC; simp [hv]) _ _⟩
  ·have q97 : ¬ k = 97 := fun e => n97 (by rw [e]; rfl)
   rcases hk with e | e | e | e | e | e
   ·exact absurd e q99
   ·exact absurd e q115
   ·exact absurd e q107
   ·exact absurd e q110
   ·exact absurd e q105
   ·exact absurd e q97
 ·exact h.elim
end Go.V
