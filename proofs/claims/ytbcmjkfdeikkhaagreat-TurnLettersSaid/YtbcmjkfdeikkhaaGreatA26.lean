/- A part of the proof layer, or functions of the given program in it: contracts and their proofs. -/
import Derived.Test.YtbcmjkfdeikkhaaGreatA25
import Derived.Test.YtbcmjkfdeikkhaaGreatA8
namespace Go.V
open Go.Proofs
set_option maxRecDepth 100000
set_option linter.unusedSimpArgs false
set_option linter.unnecessarySimpa false
set_option linter.unusedVariables false
/-! ### an outbox of bytes, plainly -/
def lastK (ls : List LastT.den) : ByteArray := match ls.getLast? with | some x => x.1 | none => ByteArray.empty
def keyStep (a : List LastT.den × Option (List UInt8)) : Option (List LastT.den × Option (List UInt8)) :=
  let x := rdText a.2
  let y := rdNum x.2
  if y.2.isNone = true ∨ keyOk x.1 = false ∨ y.1 = 0 ∨ ltS (lastK a.1) x.1 = false then none else some (a.1 ++ [(x.1, y.1)], y.2)
def keysN (st : Option (List UInt8)) : Nat → Option (List LastT.den × Option (List UInt8))
  | 0 => some ([], st)
  | n + 1 => (keysN st n).bind keyStep
def outStep (o : ByteArray) (ls : List LastT.den) (a : List OutT.den × Option (List UInt8)) : Option (List OutT.den × Option (List UInt8)) :=
  let x := rdText a.2
  let y := rdText x.2
  match decL y.1.data.toList with
  | none => none
  | some l => if y.2.isNone = true ∨ l.1 ≠ o ∨ (lookM .str (.int .u64) ls x.1).getD (0 : Int) = 0 then none else some (a.1 ++ [(x.1, l)], y.2)
def outsN (o : ByteArray) (ls : List LastT.den) (st : Option (List UInt8)) : Nat → Option (List OutT.den × Option (List UInt8))
  | 0 => some ([], st)
  | n + 1 => (outsN o ls st n).bind (outStep o ls)
def cntT (to : ByteArray) : List OutT.den → Nat
  | [] => 0
  | x :: r => if x.1 = to then cntT to r + 1 else cntT to r
/-- Have the letters to each key the last serials, in order? -/
def serOk (ls : List LastT.den) : List OutT.den → Bool
  | [] => true
  | x :: r => decide (((cntT x.1 (x :: r) : Nat) : Int) ≤ (lookM .str (.int .u64) ls x.1).getD (0 : Int)) && decide (x.2.2.1 = (lookM .str (.int .u64) ls x.1).getD (0 : Int) - (cntT x.1 (x :: r) : Nat) + 1) && serOk ls r
def decOut (bs : List UInt8) : Option (ByteArray × List OutT.den × List LastT.den) :=
  let a := rdText (some bs)
  let c := rdNum a.2
  if keyOk a.1 = false ∨ 64 < c.1 then none else
  match keysN c.2 c.1.toNat with
  | none => none
  | some p =>
    let d := rdNum p.2
    if 32 < d.1 then none else
    match outsN a.1 p.1 d.2 d.1.toNat with
    | none => none
    | some q => if serOk p.1 q.1 = true ∧ q.2 = some [] then some (a.1, q.1, p.1) else none

theorem keysN_none {st : Option (List UInt8)} {i : Nat} (h : keysN st i = none) : ∀ n, i ≤ n → keysN st n = none := by
  intro n hn
  induction n with
  | zero =>
    have : i = 0 := by omega
    rw [← this]; exact h
  | succ n ih =>
    rcases Nat.lt_or_ge n i with h1 | h1
    · have : i = n + 1 := by omega
      rw [← this]; exact h
    · rw [keysN, ih h1]; rfl
theorem outsN_none {o ls} {st : Option (List UInt8)} {i : Nat} (h : outsN o ls st i = none) : ∀ n, i ≤ n → outsN o ls st n = none := by
  intro n hn
  induction n with
  | zero =>
    have : i = 0 := by omega
    rw [← this]; exact h
  | succ n ih =>
    rcases Nat.lt_or_ge n i with h1 | h1
    · have : i = n + 1 := by omega
      rw [← this]; exact h
    · rw [outsN, ih h1]; rfl

/-- The keys that were read: in order, few, none of them nothing. -/
structure KeysOk (ls : List LastT.den) (n : Nat) : Prop where
  len : ls.length = n
  srt : ls.Pairwise fun x y => ltS x.1 y.1 = true
  key : ∀ x ∈ ls, keyOk x.1 = true ∧ x.2 ≠ 0 ∧ 0 ≤ x.2 ∧ x.2 ≤ 18446744073709551615
theorem lastK_snoc (ls : List LastT.den) (x : LastT.den) : lastK (ls ++ [x]) = x.1 := by simp [lastK]
theorem ltS_last {ls : List LastT.den} {k : ByteArray} (h : ls.Pairwise fun x y => ltS x.1 y.1 = true) (hk : ltS (lastK ls) k = true) : ∀ x ∈ ls, ltS x.1 k = true := by
  intro x hx
  rcases List.eq_nil_or_concat ls with rfl | ⟨r, y, rfl⟩
  · simp at hx
  · rw [List.concat_eq_append] at *
    rw [lastK_snoc] at hk
    rw [List.pairwise_append] at h
    rcases List.mem_append.1 hx with hx | hx
    · exact ltS_trans (h.2.2 x hx y (by simp)) hk
    · simp at hx; subst hx; exact hk
theorem keysN_ok {st : Option (List UInt8)} : ∀ {n : Nat} {p : List LastT.den × Option (List UInt8)}, keysN st n = some p → KeysOk p.1 n
  | 0, p, h => by
    simp only [keysN, Option.some.injEq] at h
    subst h
    exact ⟨rfl, List.Pairwise.nil, fun x hx => by simp at hx⟩
  | n + 1, p, h => by
    rw [keysN] at h
    cases hq : keysN st n with
    | none => rw [hq] at h; cases h
    | some q =>
      rw [hq] at h
      have ih := keysN_ok hq
      simp only [Option.bind_some, keyStep] at h
      split at h
      · cases h
      · rename_i hc
        simp only [Option.some.injEq] at h
        subst h
        have hr := rdNum_in (rdText q.2).2
        refine ⟨by simp [ih.len], ?_, ?_⟩
        · rw [List.pairwise_append]
          refine ⟨ih.srt, List.pairwise_singleton _ _, fun x hx y hy => ?_⟩
          simp at hy; subst hy
          refine ltS_last ih.srt ?_ x hx
          cases hb : ltS (lastK q.1) (rdText q.2).1 with
          | true => rfl
          | false => exact absurd (.inr (.inr (.inr hb))) hc
        · intro x hx
          rcases List.mem_append.1 hx with hx | hx
          · exact ih.key x hx
          · simp at hx; subst hx
            refine ⟨?_, fun h0 => hc (.inr (.inr (.inl h0))), hr⟩
            cases hb : keyOk (rdText q.2).1 with
            | true => rfl
            | false => exact absurd (.inr (.inl hb)) hc

end Go.V
