/- What an argument's letters bear, by how they are read. -/
import Derived.Test.YtbcmjkfdeikkhaaGreatA86
import Derived.Test.YtbcmjkfdeikkhaaGreatVx
namespace Go.V
set_option linter.unusedSimpArgs false
set_option linter.unnecessarySimpa false
set_option linter.unusedVariables false
theorem rdL_mem {α : Type} {R : α → List Value → Prop} : ∀ (xs : List α) (cs : List Value), rdL R xs cs → ∀ x ∈ xs, ∃ c, R x c
  | [], _, _, x, hx => absurd hx List.not_mem_nil
  | y :: xs, cs, h, x, hx => by
    obtain ⟨c1, c2, rfl, h1, h2⟩ := h
    rcases List.mem_cons.1 hx with rfl | hx
    · exact ⟨c1, h1⟩
    · exact rdL_mem xs c2 h2 x hx
theorem slv_mem {α : Type} {w : World} {F : Nat → Prop} {R : α → List Value → Prop} {eb sz : Nat} {xs : List α} {v : Value} (h : slv w F R eb sz xs v) : ∀ x ∈ xs, ∃ c, R x c := by
  rcases h with ⟨rfl, _⟩ | ⟨b, off, cap, cur, E, fr, cs, _, _, _, _, _, _, _, h⟩
  · exact fun x hx => absurd hx List.not_mem_nil
  · exact rdL_mem xs cs h
theorem let_ser {E : En} {p : Bool} {ls : List LetT.den} {v : Value} (h : den E (.sl p 56 LetT ls) v) : ∀ x ∈ ls, 0 ≤ x.2.1 ∧ x.2.1 ≤ 18446744073709551615 := by
  intro x hx
  simp only [den] at h
  obtain ⟨c, hc⟩ := slv_mem h x hx
  simp only [rd] at hc
  obtain ⟨c1, c2, _, _, c3, c4, _, ⟨_, h3, h4⟩, _⟩ := hc
  exact ⟨h3, h4⟩
theorem sta_ser {E : En} {p q : Bool} {ls ps : List LetT.den} {a b c : SV} {v : Value} (h : den E (.agg [.sl p 56 LetT ls, .sl q 56 LetT ps, a, b, c]) v) :
    (∀ x ∈ ls, 0 ≤ x.2.1 ∧ x.2.1 ≤ 18446744073709551615) ∧ (∀ x ∈ ps, 0 ≤ x.2.1 ∧ x.2.1 ≤ 18446744073709551615) := by
  simp only [den] at h
  obtain ⟨cs, _, h⟩ := h
  rw [denC_cons rfl] at h
  obtain ⟨v1, c1, _, h1, h⟩ := h
  rw [denC_cons rfl] at h
  obtain ⟨v2, c2, _, h2, h⟩ := h
  exact ⟨let_ser h1, let_ser h2⟩
end Go.V
