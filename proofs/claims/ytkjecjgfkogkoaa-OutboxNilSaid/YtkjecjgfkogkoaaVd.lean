/- Rows that are read: an element, a part; what an address leads to. -/
import Derived.Test.YtkjecjgfkogkoaaVc
namespace Go.V
set_option linter.unusedSimpArgs false
set_option linter.unnecessarySimpa false
set_option linter.unusedVariables false

section rows
variable {α : Type} {R : α → List Value → Prop} {sz : Nat}

theorem rdL_append : ∀ (xs ys : List α) (c1 c2 : List Value), rdL R xs c1 → rdL R ys c2 → rdL R (xs ++ ys) (c1 ++ c2)
  | [], ys, c1, c2, h1, h2 => by simp only [rdL] at h1; subst h1; exact h2
  | x :: xs, ys, c1, c2, h1, h2 => by
    obtain ⟨d1, d2, rfl, h3, h4⟩ := h1
    exact ⟨d1, d2 ++ c2, by simp, h3, rdL_append xs ys _ _ h4 h2⟩

theorem rdL_drop (hl : ∀ x c, R x c → c.length = sz) : ∀ (n : Nat) (xs : List α) (cs : List Value), rdL R xs cs → rdL R (xs.drop n) (cs.drop (n * sz))
  | 0, xs, cs, h => by simpa using h
  | n + 1, [], cs, h => by simp only [rdL] at h; subst h; simp [rdL]
  | n + 1, x :: xs, cs, h => by
    obtain ⟨c1, c2, rfl, h1, h2⟩ := h
    have := rdL_drop hl n xs c2 h2
    have d1 : c1.drop ((n + 1) * sz) = [] := List.drop_of_length_le (by rw [hl x c1 h1, Nat.succ_mul]; omega)
    rw [List.drop_succ_cons, List.drop_append, d1, List.nil_append, hl x c1 h1]
    rwa [show (n + 1) * sz - sz = n * sz by rw [Nat.succ_mul]; omega]

theorem rdL_take (hl : ∀ x c, R x c → c.length = sz) : ∀ (n : Nat) (xs : List α) (cs : List Value), rdL R xs cs → rdL R (xs.take n) (cs.take (n * sz))
  | 0, xs, cs, h => by simp [rdL]
  | n + 1, [], cs, h => by simp only [rdL] at h; subst h; simp [rdL]
  | n + 1, x :: xs, cs, h => by
    obtain ⟨c1, c2, rfl, h1, h2⟩ := h
    have := rdL_take hl n xs c2 h2
    have d1 : c1.take ((n + 1) * sz) = c1 := List.take_of_length_le (by rw [hl x c1 h1, Nat.succ_mul]; omega)
    rw [List.take_succ_cons, List.take_append, d1, hl x c1 h1]
    refine ⟨c1, _, rfl, h1, ?_⟩
    rwa [show (n + 1) * sz - sz = n * sz by rw [Nat.succ_mul]; omega]

theorem rdL_get (hl : ∀ x c, R x c → c.length = sz) (n : Nat) (xs : List α) (cs : List Value) (x : α) (h : rdL R xs cs) (hx : xs[n]? = some x) :
    ∃ c, R x c ∧ cs.drop (n * sz) = c ++ cs.drop ((n + 1) * sz) := by
  have h1 := rdL_drop hl n xs cs h
  obtain ⟨hn, hxe⟩ := List.getElem?_eq_some_iff.1 hx
  rw [List.drop_eq_getElem_cons hn] at h1
  obtain ⟨c1, c2, h2, h3, h4⟩ := h1
  rw [hxe] at h3
  refine ⟨c1, h3, ?_⟩
  rw [h2]
  congr 1
  have h5 : (cs.drop (n * sz)).drop sz = c2 := by rw [h2, List.drop_append, List.drop_of_length_le (by rw [hl _ _ h3]; exact Nat.le_refl _), hl _ _ h3]; simp
  rw [← h5, List.drop_drop, Nat.succ_mul]

theorem rdL_set (hl : ∀ x c, R x c → c.length = sz) : ∀ (n : Nat) (xs : List α) (cs : List Value) (y : α) (c : List Value), rdL R xs cs → n < xs.length → R y c →
    rdL R (xs.set n y) (cs.take (n * sz) ++ c ++ cs.drop (n * sz + c.length))
  | _, [], cs, y, c, h, hn, hy => by simp at hn
  | 0, x :: xs, cs, y, c, h, hn, hy => by
    obtain ⟨c1, c2, rfl, h1, h2⟩ := h
    refine ⟨c, c2, ?_, hy, h2⟩
    rw [List.drop_append, List.drop_of_length_le (by rw [hl _ _ h1, hl _ _ hy]; omega), hl _ _ h1, hl _ _ hy]; simp
  | n + 1, x :: xs, cs, y, c, h, hn, hy => by
    obtain ⟨c1, c2, rfl, h1, h2⟩ := h
    have ih := rdL_set hl n xs c2 y c h2 (by simpa using hn) hy
    have e := hl _ _ h1
    refine ⟨c1, _, ?_, h1, ih⟩
    have h3 : (n + 1) * sz = sz + n * sz := by rw [Nat.succ_mul]; omega
    rw [List.take_append, List.take_of_length_le (by omega), List.drop_append, List.drop_of_length_le (by omega), h3, e]
    simp [show sz + n * sz + c.length - sz = n * sz + c.length by omega]
end rows

/-- A slice that can be read, wherever it lies. -/
abbrev slr {α : Type} (w : World) (R : α → List Value → Prop) (eb sz : Nat) (xs : List α) (v : Value) : Prop := slv w (fun _ => True) R eb sz xs v

structure Cont where
  p : Bool
  eb : Nat
  t : Ty
  xs : List t.den

/-- What a slice holds. -/
def cont (hp : List SB) : SV → Option Cont
  | .sl p eb t xs => some ⟨p, eb, t, xs⟩
  | .own i => match hp[i]? with
    | some (.row _ eb t xs) => some ⟨true, eb, t, xs⟩
    | _ => none
  | .vw i lo hi sz => match hp[i]? with
    | some (.row _ eb t xs) => if sz = t.size then some ⟨true, eb, t, (xs.drop lo).take (hi - lo)⟩ else none
    | _ => none
  | _ => none

theorem slr_part {α : Type} {w : World} {R : α → List Value → Prop} {eb sz : Nat} {xs : List α} (hl : ∀ x c, R x c → c.length = sz) {b o l c : Nat} {F : Nat → Prop} (h : slv w F R eb sz xs (.slice (some ⟨b, o, none⟩) l c))
    {lo hi : Nat} (h1 : lo ≤ hi) (h2 : hi ≤ l) {ad : Addr} (had : c ≠ lo → ad = ⟨b, o + lo * sz, none⟩) : slv w F R eb sz ((xs.drop lo).take (hi - lo)) (.slice (some ad) (hi - lo) (c - lo)) := by
  rcases h with ⟨rfl, a, c', he, hc, ha⟩ | ⟨b', off, cap, cur, T, fr, cs, he, hF, hh, hle, hm, hb, ht, hr⟩
  · injection he with e1 e2 e3
    subst e2
    have : hi = 0 := by omega
    subst this
    have : lo = 0 := by omega
    subst this
    exact .inl ⟨by simp, _, _, rfl, by omega, by simp⟩
  · injection he with e1 e2 e3
    subst e2; subst e3
    injection e1 with e1
    injection e1 with e1 e4
    subst e1; subst e4
    by_cases hz : hi = lo
    · subst hz
      exact .inl ⟨by simp, some ad, c - hi, by simp, by omega, by simp⟩
    · have hlen : ((xs.drop lo).take (hi - lo)).length = hi - lo := by simp; omega
      rw [had (by omega)]
      refine .inr ⟨b, o + lo * sz, c - lo, cur, T, fr, _, by rw [hlen], hF, hh, by rw [hlen]; omega, by omega, ?_, rfl, ?_⟩
      · rw [hlen]; exact Nat.le_trans (Nat.mul_le_mul_right _ (by omega)) hb
      · rw [hlen]
        have h3 := rdL_take hl (hi - lo) _ _ (rdL_drop hl lo xs cs hr)
        rw [← ht] at h3
        have e5 : ((List.drop o cur.toList).take (xs.length * sz)).drop (lo * sz) = (List.drop (o + lo * sz) cur.toList).take (xs.length * sz - lo * sz) := by
          rw [List.drop_take, List.drop_drop]
        rw [e5, List.take_take] at h3
        have e6 : min ((hi - lo) * sz) (xs.length * sz - lo * sz) = (hi - lo) * sz := by
          rw [← Nat.sub_mul]
          exact Nat.min_eq_left (Nat.mul_le_mul_right _ (by omega))
        rwa [e6] at h3

theorem ownv_slr {α : Type} {w : World} {R : α → List Value → Prop} {rv : RV} {eb sz : Nat} {xs : List α} (h : ownv w R rv eb sz xs) : slr w R eb sz xs rv.val := by
  rcases h with ⟨⟨ad, h1⟩, h2, rfl⟩ | ⟨b, off, cap, cur, T, fr, cs, h1, h2, h3, h4, h5, h6, h7, h8, h9, h10⟩
  · exact .inl ⟨rfl, ad, 0, h1, by simp [maxLen], by simp⟩
  · exact .inr ⟨b, off, cap, cur, T, fr, cs, h1, trivial, h3, h5, h6, h8, h9, h10⟩

theorem cont_sound {hp : List SB} {E : En} (h : HS hp E) {x : SV} {v : Value} (hx : den E x v) {C : Cont} (hc : cont hp x = some C) : slr E.w (rd E.w (E.F C.p) C.t) C.eb C.t.size C.xs v := by
  have up : ∀ (p : Bool) (t : Ty) (y : t.den) c, rd E.w E.Fz t y c → rd E.w (E.F p) t y c := fun p t y c hy => rd_mono (fun b hb => .inl hb) (fun _ _ => rfl) t y c hy
  cases x <;> simp only [cont] at hc <;> try cases hc
  · simp only [den] at hx
    exact slv_mono (fun _ _ => trivial) (fun _ _ => rfl) (fun _ _ h => h) hx
  · rename_i i
    simp only [den] at hx
    obtain ⟨_, rfl, _⟩ := hx
    split at hc
    · rename_i mv eb t xs hi
      cases hc
      exact slv_mono (fun _ _ => trivial) (fun _ _ => rfl) (up true t) (ownv_slr (h.ok i _ hi))
    · cases hc
  · rename_i i lo hi' sz
    simp only [den] at hx
    split at hc
    · rename_i mv eb t xs hi
      split at hc
      · rename_i hsz
        cases hc
        have ho := slv_mono (F' := fun _ => True) (fun _ _ => trivial) (fun _ _ => rfl) (up true t) (ownv_slr (h.ok i _ hi))
        rcases hx.2.2 with ⟨rfl, rfl, ad, _, rfl⟩ | ⟨b, o, l, c, h1, h2, ad, rfl, had⟩
        · exact .inl ⟨by simp, ad, 0, rfl, by simp [maxLen], by simp⟩
        · rw [h1] at ho
          exact slr_part (rd_length t) ho hx.2.1 h2 (by rw [← hsz]; exact had)
      · cases hc
    · cases hc

/-- The cells from an address on, and what must hold for them to be there. -/
def seen (hp : List SB) : SV → Option (Prop × List SV)
  | .ptr i off => match hp[i]? with
    | some (.struct cells) => (dropC cells off).map fun r => (True, r)
    | _ => none
  | .el i n sz off => match hp[i]? with
    | some (.row _ eb t xs) => if sz = t.size then (dropC (t.sv true (xs.getD n t.dflt)) off).map fun r => (n < xs.length, r) else none
    | _ => none
  | .rel p eb t xs n off => (dropC (t.sv p (xs.getD n t.dflt)) off).map fun r => (n < xs.length, r)
  | .ptrA i off n sz => match hp[i]? with
    | some (.struct cells) => match dropC cells off with
      | some (.arr m t xs :: _) => if sz = t.size then some (n < m, t.sv true (xs.getD n t.dflt)) else none
      | _ => none
    | _ => none
  | _ => none

theorem take_append_of {l : List Value} {k : Nat} {a b : List Value} (h : l.take k = a ++ b) : ∃ r, l = a ++ r ∧ l.take a.length = a := by
  have h1 : l = (a ++ b) ++ l.drop k := by rw [← h, List.take_append_drop]
  refine ⟨b ++ l.drop k, by rw [← List.append_assoc]; exact h1, ?_⟩
  rw [h1, List.append_assoc]; simp

/-- Element n of what is read lies where it should. -/
theorem elem_at {α : Type} {R : α → List Value → Prop} {sz : Nat} (hl : ∀ x c, R x c → c.length = sz) {xs : List α} {cur : List Value} {off : Nat} {cs : List Value} (ht : (cur.drop off).take (xs.length * sz) = cs) (hr : rdL R xs cs)
    {n : Nat} {x : α} (hx : xs[n]? = some x) : ∃ c r, R x c ∧ cur.drop (off + n * sz) = c ++ r := by
  obtain ⟨c, h1, h2⟩ := rdL_get hl n xs cs x hr hx
  rw [← ht, List.drop_take, List.drop_drop] at h2
  obtain ⟨r, h3, _⟩ := take_append_of h2
  exact ⟨c, r, h1, h3⟩

theorem seen_sound {hp : List SB} {E : En} (h : HS hp E) {x : SV} {v : Value} (hx : den E x v) {need : Prop} {l : List SV} (hs : seen hp x = some (need, l)) (hn : need) :
    ∃ b off cur T fr cs r, v = .pointer (some ⟨b, off, none⟩) ∧ E.w.heap[b]? = some (.cells cur T fr) ∧ cur.toList.drop off = cs ++ r ∧ denC E l cs := by
  have up : ∀ (t : Ty) (y : t.den) c, rd E.w E.Fz t y c → rd E.w (E.F true) t y c := fun t y c hy => rd_mono (fun b hb => .inl hb) (fun _ _ => rfl) t y c hy
  cases x <;> simp only [seen] at hs <;> try cases hs
  · rename_i i off
    simp only [den] at hx
    obtain ⟨_, b, hb, rfl⟩ := hx
    split at hs
    · rename_i cells hi
      cases hd : dropC cells off with
      | none => rw [hd] at hs; cases hs
      | some r =>
        rw [hd] at hs
        cases hs
        obtain ⟨b', cur, T, fr, h1, h2, h3, h4⟩ := h.ok i _ hi
        rw [hb] at h1
        cases h1
        obtain ⟨h5, _⟩ := denC_drop cells off l _ h4 hd
        exact ⟨b, off, cur, T, fr, _, [], rfl, h2, (List.append_nil _).symm, h5⟩
    · cases hs
  · rename_i i n sz off
    simp only [den] at hx
    obtain ⟨_, b, o, l', c, hb, rfl⟩ := hx
    split at hs
    · rename_i mv eb t xs hi
      split at hs
      · rename_i hsz
        cases hd : dropC (t.sv true (xs.getD n t.dflt)) off with
        | none => rw [hd] at hs; cases hs
        | some r =>
          rw [hd] at hs
          cases hs
          have hx : xs[n]? = some (xs.getD n t.dflt) := by rw [List.getD_eq_getElem?_getD, List.getElem?_eq_getElem hn]; rfl
          rcases h.ok i _ hi with ⟨_, _, h1⟩ | ⟨b', off', cap, cur, T, fr, cs, h1, h2, h3, h4, h5, h6, h7, h8, h9, h10⟩
          · rw [h1] at hn; simp at hn
          · rw [hb] at h1
            injection h1 with h1
            injection h1 with h1
            injection h1 with h1 h11
            subst h1; subst h11
            obtain ⟨c', r', h12, h13⟩ := elem_at (rd_length t) h9 h10 hx
            have h14 := denC_sv (E := E) true t _ _ (up t _ _ h12)
            obtain ⟨h15, h16⟩ := denC_drop _ off l _ h14 hd
            refine ⟨b, o + (n * sz + off), cur, T, fr, _, r', rfl, h3, ?_, h15⟩
            rw [hsz, ← Nat.add_assoc, ← List.drop_drop, h13, List.drop_append, Nat.sub_eq_zero_of_le h16, List.drop_zero]
      · cases hs
    · cases hs
  · rename_i p eb t xs n off
    simp only [den] at hx
    obtain ⟨vs, b, o, l', c, hsl, rfl, rfl⟩ := hx
    cases hd : dropC (t.sv p (xs.getD n t.dflt)) off with
    | none => rw [hd] at hs; cases hs
    | some r =>
      rw [hd] at hs
      cases hs
      have hx : xs[n]? = some (xs.getD n t.dflt) := by rw [List.getD_eq_getElem?_getD, List.getElem?_eq_getElem hn]; rfl
      rcases hsl with ⟨rfl, _⟩ | ⟨b', off', cap, cur, T, fr, cs, h1, h2, h3, h4, h5, h6, h7, h8⟩
      · simp at hn
      · injection h1 with h1
        injection h1 with h1
        injection h1 with h1 h11
        subst h1; subst h11
        obtain ⟨c', r', h12, h13⟩ := elem_at (rd_length t) h7 h8 hx
        have h14 := denC_sv (E := E) p t _ _ h12
        obtain ⟨h15, h16⟩ := denC_drop _ off l _ h14 hd
        refine ⟨b, o + (n * t.size + off), cur, T, fr, _, r', rfl, h3, ?_, h15⟩
        rw [← Nat.add_assoc, ← List.drop_drop, h13, List.drop_append, Nat.sub_eq_zero_of_le h16, List.drop_zero]
  · rename_i i off n sz
    simp only [den] at hx
    obtain ⟨_, b, hb, rfl⟩ := hx
    split at hs
    · rename_i cells hi
      split at hs
      · rename_i m t xs rest hd
        split at hs
        · rename_i hsz
          cases hs
          obtain ⟨b', cur, T, fr, h1, h2, h3, h4⟩ := h.ok i _ hi
          rw [hb] at h1
          cases h1
          obtain ⟨h5, _⟩ := denC_drop cells off _ _ h4 hd
          simp only [denC] at h5
          obtain ⟨c1, c2, h6, h7, h8, h9, h10⟩ := h5
          have hx : xs[n]? = some (xs.getD n t.dflt) := by rw [List.getD_eq_getElem?_getD, List.getElem?_eq_getElem (by rw [h7]; exact hn)]; rfl
          obtain ⟨c', h11, h12⟩ := rdL_get (rd_length t) n xs c1 _ h9 hx
          refine ⟨b, off + n * sz, cur, T, fr, _, c1.drop ((n + 1) * t.size) ++ c2, rfl, h2, ?_, denC_sv (E := E) true t _ _ (up t _ _ h11)⟩
          rw [hsz, ← List.drop_drop, h6, List.drop_append, h12, List.append_assoc]
          congr 2
          have hlen := rdL_length (rd_length t) xs c1 h9
          rw [Nat.sub_eq_zero_of_le, List.drop_zero]
          rw [hlen, h7]
          exact Nat.mul_le_mul_right _ (Nat.le_of_lt hn)
        · cases hs
      · cases hs
    · cases hs

end Go.V
