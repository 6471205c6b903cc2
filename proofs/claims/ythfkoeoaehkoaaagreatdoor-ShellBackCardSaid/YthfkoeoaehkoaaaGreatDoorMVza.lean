/- .. effects, code, functions. -/
import Derived.Test.YthfkoeoaehkoaaaGreatDoorMN2
import Derived.Test.YthfkoeoaehkoaaaGreatDoorMN1
import Derived.RangeFuncRecord
import Derived.Shelf.Strings.Split
namespace Go.V
set_option linter.unusedSimpArgs false
set_option linter.unnecessarySimpa false
set_option linter.unusedVariables false
/-! ### values alike -/
def eqvL {α : Type} (f : α → α → Bool) : List α → List α → Bool
 | [], [] => true
 | x :: r, y :: r' => f x y && eqvL f r r'
 | _, _ => false
theorem eqvL_eq {α : Type} {f : α → α → Bool} (hf : ∀ x y, f x y = true → x = y) : ∀ l l', eqvL f l l' = true → l = l'
 | [], [], _ => rfl
 | x :: r, y :: r', h => by
  simp only [eqvL, Bool.and_eq_true] at h
  rw [hf _ _ h.1, eqvL_eq hf _ _ h.2]
def Ty.eqv : (t : Ty) → t.den → t.den → Bool
 | .int _, a, b => decide ((a : Int) = b)
 | .byte, a, b => (a : UInt8).toNat == (b : UInt8).toNat
 | .bool, a, b => (a : Bool) == b
 | .str, a, b => beqB a b
 | .sl _ t, a, b => eqvL t.eqv a b
 | .pair s t, a, b => s.eqv a.1 b.1 && t.eqv a.2 b.2
 | .unit, _, _ => true
 | .any1, _, _ => true
theorem Ty.eqv_eq : ∀ (t : Ty) (a b : t.den), t.eqv a b = true → a = b
 | .int _, a, b, h => by simpa [Ty.eqv] using h
 | .byte, a, b, h => by simp only [Ty.eqv, beq_iff_eq] at h; exact UInt8.toNat_inj.1 h
 | .bool, a, b, h => by simpa [Ty.eqv] using h
 | .str, a, b, h => by simp only [Ty.eqv, ← beqB_eq, decide_eq_true_eq] at h; exact h
 | .sl _ t, a, b, h => eqvL_eq (Ty.eqv_eq t) _ _ (by simpa only [Ty.eqv] using h)
 | .pair s t, a, b, h => by
  simp only [Ty.eqv, Bool.and_eq_true] at h
  exact Prod.ext (Ty.eqv_eq s _ _ h.1) (Ty.eqv_eq t _ _ h.2)
 | .unit, _, _, _ => rfl
 | .any1, _, _, _ => rfl
def xsEq (t t' : Ty) (xs : List t.den) (ys : List t'.den) : Bool := if h : t = t' then eqvL t'.eqv (castT h xs) ys else false
theorem xsEq_eq {t t' : Ty} {xs : List t.den} {ys : List t'.den} (h : xsEq t t' xs ys = true) : t = t' ∧ HEq xs ys := by
 unfold xsEq at h
 split at h
 ·rename_i e; subst e; exact ⟨rfl, heq_of_eq (eqvL_eq (Ty.eqv_eq t) _ _ h)⟩
 ·cases h
mutual
def svEq : SV → SV → Bool
 | .int k a, y => match y with | .int k' b => decide (k = k') && decide (a = b) | _ => false
 | .bool a, y => match y with | .bool b => a == b | _ => false
 | .str a, y => match y with | .str b => beqB a b | _ => false
 | .sl p eb t xs, y => match y with | .sl p' eb' t' ys => p == p' && eb == eb' && xsEq t t' xs ys | _ => false
 | .nilp, y => match y with | .nilp => true | _ => false
 | .nils, y => match y with | .nils => true | _ => false
 | .nilm, y => match y with | .nilm => true | _ => false
 | .nilf, y => match y with | .nilf => true | _ => false
 | .nili, y => match y with | .nili => true | _ => false
 | .ptr i o, y => match y with | .ptr j o' => i == j && o == o' | _ => false
 | .own i, y => match y with | .own j => i == j | _ => false
 | .vw i a b c, y => match y with | .vw j a' b' c' => i == j && a == a' && b == b' && c == c' | _ => false
 | .mp i, y => match y with | .mp j => i == j | _ => false
 | .svw i n, y => match y with | .svw j m => i == j && n == m | _ => false
 | .agg l, y => match y with | .agg l' => svEqL l l' | _ => false
 | .tup l, y => match y with | .tup l' => svEqL l l' | _ => false
 | .fn f l, y => match y with | .fn g l' => f == g && svEqL l l' | _ => false
 | .junk1, y => match y with | .junk1 => true | _ => false
 | .junk, y => match y with | .junk => true | _ => false
 | _, _ => false
def svEqL : List SV → List SV → Bool
 | [], y => match y with | [] => true | _ => false
 | x :: r, y => match y with | z :: r' => svEq x z && svEqL r r' | [] => false
end
mutual
theorem svEq_eq : ∀ x y, svEq x y = true → x = y
 | .int _ _, y, h => by cases y <;> simp_all [svEq]
 | .bool _, y, h => by cases y <;> simp_all [svEq]
 | .str _, y, h => by cases y <;> simp_all [svEq, ← beqB_eq]
 | .sl _ _ _ _, y, h => by
  cases y <;> simp only [svEq, Bool.and_eq_true, beq_iff_eq, reduceCtorEq, Bool.false_eq_true] at h
  obtain ⟨⟨rfl, rfl⟩, h⟩ := h
  obtain ⟨rfl, h⟩ := xsEq_eq h
  cases h; rfl
 | .nilp, y, h => by cases y <;> simp_all [svEq]
 | .nils, y, h => by cases y <;> simp_all [svEq]
 | .nilm, y, h => by cases y <;> simp_all [svEq]
 | .nilf, y, h => by cases y <;> simp_all [svEq]
 | .nili, y, h => by cases y <;> simp_all [svEq]
 | .ptr _ _, y, h => by cases y <;> simp_all [svEq]
 | .own _, y, h => by cases y <;> simp_all [svEq]
 | .vw _ _ _ _, y, h => by cases y <;> simp_all [svEq]
 | .mp _, y, h => by cases y <;> simp_all [svEq]
 | .agg l, y, h => by
  cases y <;> simp only [svEq, Bool.false_eq_true] at h
  rw [svEqL_eq l _ h]
 | .tup l, y, h => by
  cases y <;> simp only [svEq, Bool.false_eq_true] at h
  rw [svEqL_eq l _ h]
 | .fn f l, y, h => by
  cases y <;> simp only [svEq, Bool.false_eq_true, Bool.and_eq_true, beq_iff_eq] at h
  rw [h.1, svEqL_eq l _ h.2]
 | .junk1, y, h => by cases y <;> simp_all [svEq]
 | .junk, y, h => by cases y <;> simp_all [svEq]
 | .el _ _ _ _, y, h => by simp [svEq] at h
 | .rel _ _ _ _ _ _, y, h => by simp [svEq] at h
 | .ptrA _ _ _ _, y, h => by simp [svEq] at h
 | .pty _ _, y, h => by simp [svEq] at h
 | .svw _ _, y, h => by cases y <;> simp_all [svEq]
 | .slf _, y, h => by simp [svEq] at h
 | .arr _ _ _, y, h => by simp [svEq] at h
theorem svEqL_eq : ∀ l l', svEqL l l' = true → l = l'
 | [], y, h => by cases y <;> simp_all [svEqL]
 | x :: r, y, h => by
  cases y <;> simp only [svEqL, Bool.and_eq_true, Bool.false_eq_true] at h
  rw [svEq_eq x _ h.1, svEqL_eq r _ h.2]
end
def sbEq (a b : SB) : Bool :=
 match a with
 | .struct l => match b with | .struct l' => svEqL l l' | _ => false
 | .row mv eb t xs => match b with | .row mv' eb' t' ys => mv == mv' && eb == eb' && xsEq t t' xs ys | _ => false
 | .map va kt vt m => match b with | .map va' kt' vt' m' => va == va' && xsEq (.pair kt vt) (.pair kt' vt') m m' | _ => false
 | .itr s p => match b with | .itr s' p' => decide (s = s') && p == p' | _ => false
 | .gone => match b with | .gone => true | _ => false
theorem sbEq_eq {a b : SB} (h : sbEq a b = true) : a = b := by
 cases a <;> cases b <;> simp only [sbEq, Bool.and_eq_true, beq_iff_eq, Bool.false_eq_true] at h
 ·rw [svEqL_eq _ _ h]
 ·obtain ⟨⟨rfl, rfl⟩, h⟩ := h
  obtain ⟨rfl, h⟩ := xsEq_eq h
  cases h; rfl
 ·obtain ⟨rfl, h⟩ := h
  obtain ⟨e, h⟩ := xsEq_eq h
  injection e with e1 e2
  subst e1 e2
  cases h; rfl
 ·obtain ⟨h1, rfl⟩ := h
  rw [of_decide_eq_true h1]
 ·rfl
def frEq (a b : Nat × SV) : Bool := a.1 == b.1 && svEq a.2 b.2
def ssEq (a b : SS) : Bool := eqvL frEq a.fr b.fr && eqvL sbEq a.hp b.hp
theorem ssEq_eq {a b : SS} (h : ssEq a b = true) : a = b := by
 simp only [ssEq, Bool.and_eq_true] at h
 cases a; cases b
 have h1 := eqvL_eq (f := frEq) (fun x y h => by simp only [frEq, Bool.and_eq_true, beq_iff_eq] at h; exact Prod.ext h.1 (svEq_eq _ _ h.2)) _ _ h.1
 have h2 := eqvL_eq (fun x y h => sbEq_eq h) _ _ h.2
 simp only at h1 h2
 rw [h1, h2]
/-! ### outcomes: several, each of which may be -/
abbrev Outs (α : Type) := Option (List α)
def oAll {α : Type} (o : Outs α) (p : α → Prop) : Prop := ∃ l, o = some l ∧ ∀ x ∈ l, p x
def oApp {α : Type} (a b : Outs α) : Outs α :=
 match a with
 | none => none
 | some l => match l with
  | [] => b
  | l => match b with
   | none => none
   | some l' => some (l ++ l')
theorem oAll_app {α : Type} {a b : Outs α} {p : α → Prop} (h : oAll (oApp a b) p) : oAll a p ∧ oAll b p := by
 obtain ⟨l, h, hp⟩ := h
 unfold oApp at h
 split at h <;> first | cases h | skip
 split at h
 ·exact ⟨⟨_, rfl, by simp⟩, ⟨l, h, hp⟩⟩
 ·split at h <;> first | cases h | skip
  exact ⟨⟨_, rfl, fun x hx => hp x (List.mem_append_left _ hx)⟩, ⟨_, rfl, fun x hx => hp x (List.mem_append_right _ hx)⟩⟩
def oBindL {α β : Type} (f : α → Outs β) : List α → Outs β
 | [] => some []
 | x :: r => match r with
  | [] => f x
  | r => oApp (f x) (oBindL f r)
def oBind {α β : Type} (a : Outs α) (f : α → Outs β) : Outs β :=
 match a with
 | none => none
 | some l => oBindL f l
theorem oAll_bindL {α β : Type} {f : α → Outs β} {p : β → Prop} : ∀ {l : List α}, oAll (oBindL f l) p → ∀ x ∈ l, oAll (f x) p
 | [], _ => by simp
 | [x], h => by simpa [oBindL] using h
 | x :: y :: r, h => by
  simp only [oBindL] at h
  have h := oAll_app h
  intro z hz
  rcases List.mem_cons.1 hz with rfl | hz
  ·exact h.1
  ·exact oAll_bindL (l := y :: r) h.2 z hz
theorem oAll_bind {α β : Type} {a : Outs α} {f : α → Outs β} {p : β → Prop} (h : oAll (oBind a f) p) : oAll a (fun x => oAll (f x) p) := by
 unfold oBind at h
 split at h
 ·obtain ⟨_, h, _⟩ := h; cases h
 ·exact ⟨_, rfl, oAll_bindL h⟩
def oMap {α β : Type} (f : α → β) (a : Outs α) : Outs β :=
 match a with
 | none => none
 | some l => some (l.map f)
theorem oAll_map {α β : Type} {a : Outs α} {f : α → β} {p : β → Prop} (h : oAll (oMap f a) p) : oAll a (fun x => p (f x)) := by
 unfold oMap at h
 split at h
 ·obtain ⟨_, h, _⟩ := h; cases h
 ·obtain ⟨l, h, hp⟩ := h
  cases h
  exact ⟨_, rfl, fun x hx => hp _ (List.mem_map_of_mem hx)⟩
theorem oAll_mono {α : Type} {a : Outs α} {p q : α → Prop} (h : oAll a p) (hpq : ∀ x, p x → q x) : oAll a q := by
 obtain ⟨l, h, hp⟩ := h
 exact ⟨l, h, fun x hx => hpq x (hp x hx)⟩
theorem oAll_one {α : Type} {x : α} {p : α → Prop} (h : oAll (some [x]) p) : p x := by
 obtain ⟨l, h, hp⟩ := h; cases h; exact hp x (by simp)
theorem oAll_none {α : Type} {p : α → Prop} (h : oAll (none : Outs α) p) : False := by
 obtain ⟨l, h, _⟩ := h; cases h
def nubL {α : Type} (eq : α → α → Bool) : List α → List α
 | [] => []
 | x :: r => match r with
  | [] => [x]
  | r => if r.any (fun y => eq x y) then nubL eq r else x :: nubL eq r
theorem nubL_all {α : Type} {eq : α → α → Bool} (he : ∀ x y, eq x y = true → x = y) : ∀ (l : List α), ∀ x ∈ l, x ∈ nubL eq l
 | [], x, hx => by cases hx
 | [y], x, hx => by simpa [nubL] using hx
 | y :: z :: r, x, hx => by
  have ih := nubL_all he (z :: r)
  simp only [nubL]
  rcases List.mem_cons.1 hx with rfl | hx
  ·split
   ·rename_i h
    obtain ⟨w, hw, hxw⟩ := List.any_eq_true.1 h
    rw [he _ _ hxw]
    exact ih w hw
   ·exact List.mem_cons_self
  ·split
   ·exact ih x hx
   ·exact List.mem_cons_of_mem _ (ih x hx)
theorem oAll_pair {α β : Type} {a : α} {b : β} {K : α → β → Prop} (h : oAll (some [(a, b)]) (fun p => K p.1 p.2)) : K a b := oAll_one (p := fun p : α × β => K p.1 p.2) h
/-! ### effects -/
def appX (eb : Nat) (t : Ty) (s : SS) (x : SV) (ys : Option (List t.den)) : Outs (SV × SS) :=
 match ys with
 | none => none
 | some ys => match x with
  | .nils => if ys.length * eb ≤ 140737488355328 then some [(.own s.hp.length, pushS s (.row true eb t ys))] else none
  | .own i => match s.hp[i]? with
   | some (.row _ eb' t' xs) => if h : t' = t then (if eb' = eb ∧ (xs.length + ys.length) * eb ≤ 140737488355328 then some [(.own i, movS s i (.row true eb t (castT h xs ++ ys)))] else none) else none
   | _ => none
  | _ => none
theorem appX_ok {eb : Nat} {t : Ty} {s : SS} {x : SV} {H : Prop} {ys : Option (List t.den)} {K : SV → SS → Prop} (h : oAll (appX eb t s x ys) (fun p => K p.1 p.2)) : app1 eb t s x H ys K := by
 unfold appX at h
 split at h <;> first | exact (oAll_none h).elim | skip
 split at h <;> first | exact (oAll_none h).elim | skip
 ·split at h <;> first | exact (oAll_none h).elim | skip
  rename_i hc
  exact ⟨fun _ => hc, fun _ => oAll_pair h⟩
 ·split at h <;> first | exact (oAll_none h).elim | skip
  rename_i hh
  split at h <;> first | exact (oAll_none h).elim | skip
  rename_i he
  split at h <;> first | exact (oAll_none h).elim | skip
  rename_i hc
  simp only [app1, hh, dif_pos he]
  exact ⟨hc.1, fun _ _ => hc.2, fun _ => oAll_pair h⟩
def stX (n : Nat) (s : SS) (x : SV) (new : Option (List SV)) : Outs (SV × SS) :=
  match new with
  | none => none
  | some new => if widthL new = n then match x with
      | .ptr i off => match s.hp[i]? with
        | some (.struct cells) => match splC cells off new with
          | some cells' => some [(.junk, setS s i (.struct cells'))]
          | none => none
        | _ => none
      | .el i m sz off => match s.hp[i]? with
        | some (.row mv eb t xs) => if sz = t.size ∧ m < xs.length then match splC (t.sv true (xs.getD m t.dflt)) off new with
            | some l => match t.ofSv l with
              | some (y, []) => some [(.junk, setS s i (.row mv eb t (xs.set m y)))]
              | _ => none
            | none => none
          else none
        | _ => none
      | .ptrA i off m sz => match s.hp[i]? with
        | some (.struct cells) => match takeC cells off with
          | some pre => match dropC cells off with
            | some (.arr k t xs :: rest) => if sz = t.size ∧ m < k then match t.ofSv new with
                | some (y, []) => some [(.junk, setS s i (.struct (pre ++ (.arr k t (xs.set m y) :: rest))))]
                | _ => none
              else none
            | _ => none
          | none => none
        | _ => none
      | _ => none
    else none
theorem stX_ok {n : Nat} {s : SS} {x : SV} {new : Option (List SV)} {K : SV → SS → Prop} (h : oAll (stX n s x new) (fun p => K p.1 p.2)) : st1 n s x new K := by
 unfold stX at h
 split at h <;> first | exact (oAll_none h).elim | skip
 split at h <;> first | exact (oAll_none h).elim | skip
 rename_i hw
 split at h <;> first | exact (oAll_none h).elim | skip
 ·split at h <;> first | exact (oAll_none h).elim | skip
  rename_i hh
  split at h <;> first | exact (oAll_none h).elim | skip
  rename_i hs
  simp only [st1, if_pos hw, hh, hs]
  exact oAll_pair h
 ·split at h <;> first | exact (oAll_none h).elim | skip
  rename_i hh
  split at h <;> first | exact (oAll_none h).elim | skip
  rename_i hc
  split at h <;> first | exact (oAll_none h).elim | skip
  rename_i hs
  split at h <;> first | exact (oAll_none h).elim | skip
  rename_i ho
  simp only [st1, if_pos hw, hh, if_pos hc.1, hs, ho]
  exact ⟨hc.2, fun _ => oAll_pair h⟩
 ·split at h <;> first | exact (oAll_none h).elim | skip
  rename_i hh
  split at h <;> first | exact (oAll_none h).elim | skip
  rename_i ht
  split at h <;> first | exact (oAll_none h).elim | skip
  rename_i hd
  split at h <;> first | exact (oAll_none h).elim | skip
  rename_i hc
  split at h <;> first | exact (oAll_none h).elim | skip
  rename_i ho
  simp only [st1, if_pos hw, hh, ht, hd, if_pos hc.1, ho]
  exact ⟨hc.2, fun _ => oAll_pair h⟩
def storesX (n : Nat) (s : SS) (x v : SV) : Outs (SV × SS) :=
 match isEl x with
 | true => match flatS v with
  | some l => match frzAll s l (SV.rowsL l) with
   | (s', l') => if onesL l' = true then stX n s' x (some l') else none
  | none => none
 | false => match settle s v with
  | (v', s') => if ones (flatS v') = true then stX n s' x (flatS v') else none
theorem storesX_ok {n : Nat} {s : SS} {x v : SV} {K : SV → SS → Prop} (h : oAll (storesX n s x v) (fun p => K p.1 p.2)) : stores n s x v K := by
 unfold storesX at h
 split at h <;> first | exact (oAll_none h).elim | skip
 ·rename_i he
  split at h <;> first | exact (oAll_none h).elim | skip
  rename_i hf
  simp only at h
  split at h <;> first | exact (oAll_none h).elim | skip
  rename_i ho
  simp only [stores, he, hf]
  exact ⟨ho, stX_ok h⟩
 ·rename_i he
  simp only at h
  split at h <;> first | exact (oAll_none h).elim | skip
  rename_i ho
  simp only [stores, he]
  exact ⟨ho, stX_ok h⟩
def muX (va : Bool) (kt vt : Ty) (s : SS) (x k v : SV) : Outs (SV × SS) :=
  match x with
  | .mp i => match s.hp[i]? with
    | some (.map va' kt' vt' m) => if (va' = va ∧ kt' = kt ∧ vt' = vt) ∧ m.length + 1 ≤ maxLen then match kt'.keyOf k with
        | some key => match valC va' v with
          | some l => match vt'.ofSv (frzAll s l (SV.rowsL l)).2 with
            | some (y, []) => some [(.junk, setS (frzAll s l (SV.rowsL l)).1 i (.map va' kt' vt' (updM kt' vt' m key y)))]
            | _ => none
          | none => none
        | none => none
      else none
    | _ => none
  | _ => none
theorem muX_ok {va : Bool} {kt vt : Ty} {s : SS} {x k v : SV} {K : SV → SS → Prop} (h : oAll (muX va kt vt s x k v) (fun p => K p.1 p.2)) : mu1 va kt vt s x k v K := by
 unfold muX at h
 split at h <;> first | exact (oAll_none h).elim | skip
 split at h <;> first | exact (oAll_none h).elim | skip
 rename_i hh
 split at h <;> first | exact (oAll_none h).elim | skip
 rename_i hc
 split at h <;> first | exact (oAll_none h).elim | skip
 rename_i hk
 split at h <;> first | exact (oAll_none h).elim | skip
 rename_i hl
 split at h <;> first | exact (oAll_none h).elim | skip
 rename_i hy
 simp only [mu1, hh, mu0, mu2, mu3, hk, hl, hy]
 exact ⟨hc.1, hc.2, oAll_pair h⟩
def bslX (eb : Nat) (t : Ty) (n : Nat) (s : SS) (l : Option (List SV)) : Outs (SV × SS) :=
 match l with
 | some l => match t.ofSvL n (frzAll s l (SV.rowsL l)).2 with
  | some xs => some [(.own (frzAll s l (SV.rowsL l)).1.hp.length, pushS (frzAll s l (SV.rowsL l)).1 (.row true eb t xs))]
  | none => none
 | none => none
theorem bslX_ok {eb : Nat} {t : Ty} {n : Nat} {s : SS} {l : Option (List SV)} {K : SV → SS → Prop} (h : oAll (bslX eb t n s l) (fun p => K p.1 p.2)) : bsl1 eb t n s l K := by
 unfold bslX at h
 split at h <;> first | exact (oAll_none h).elim | skip
 split at h <;> first | exact (oAll_none h).elim | skip
 rename_i hx
 simp only [bsl1, hx, bsl2]
 exact oAll_pair h
def mksX (eb : Nat) (t : Ty) (s : SS) (x y : SV) : Outs (SV × SS) :=
 match x with
 | .int _ l => match y with
  | .int _ c => if 0 ≤ l ∧ l ≤ c ∧ c ≤ 9223372036854775807 ∧ c * (eb : Int) ≤ 140737488355328 then some [(.own s.hp.length, pushS s (.row true eb t (List.replicate l.toNat t.dflt)))] else none
  | _ => none
 | _ => none
theorem mksX_ok {eb : Nat} {t : Ty} {s : SS} {x y : SV} {K : SV → SS → Prop} (h : oAll (mksX eb t s x y) (fun p => K p.1 p.2)) : mks1 eb t s x y K := by
 unfold mksX at h
 split at h <;> first | exact (oAll_none h).elim | skip
 split at h <;> first | exact (oAll_none h).elim | skip
 split at h <;> first | exact (oAll_none h).elim | skip
 rename_i hc
 exact ⟨hc, oAll_pair h⟩
def dlX (kt : Ty) (s : SS) (x k : SV) : Outs (SV × SS) :=
 match x with
 | .mp i => match s.hp[i]? with
  | some (.map va kt' vt m) => if kt' = kt then match kt'.keyOf k with
    | some key => some [(.tup [], setS s i (.map va kt' vt (delM kt' vt m key)))]
    | none => none
   else none
  | _ => none
 | _ => none
theorem dlX_ok {kt : Ty} {s : SS} {x k : SV} {K : SV → SS → Prop} (h : oAll (dlX kt s x k) (fun p => K p.1 p.2)) : dl1 kt s x k K := by
 unfold dlX at h
 split at h <;> first | exact (oAll_none h).elim | skip
 split at h <;> first | exact (oAll_none h).elim | skip
 rename_i hh
 split at h <;> first | exact (oAll_none h).elim | skip
 rename_i hc
 split at h <;> first | exact (oAll_none h).elim | skip
 rename_i hk
 simp only [dl1, hh, dl0, dl2, hk]
 exact ⟨hc, oAll_pair h⟩
def mkbX (s : SS) (x : SV) : Outs (SV × SS) :=
 match x with
 | .own i => match s.hp[i]? with
  | some (.row _ _ _ xs) => if 1 ≤ xs.length then some [(.own i, s)] else none
  | _ => none
 | _ => none
theorem mkbX_ok {s : SS} {x : SV} {K : SV → SS → Prop} (h : oAll (mkbX s x) (fun p => K p.1 p.2)) : mkb1 s x K := by
 unfold mkbX at h
 split at h <;> first | exact (oAll_none h).elim | skip
 split at h <;> first | exact (oAll_none h).elim | skip
 rename_i hh
 split at h <;> first | exact (oAll_none h).elim | skip
 rename_i hc
 simp only [mkb1, hh, mkb2]
 exact ⟨hc, oAll_pair h⟩
def cpyX (t : Ty) (s : SS) (x : SV) (ys : Option (List t.den)) : Outs (SV × SS) :=
  match ys with
  | some ys => match x with
    | .vw i lo hi sz => match s.hp[i]? with
      | some (.row mv eb t' xs) => if h : t' = t then (if sz = t.size ∧ lo + ys.length ≤ hi ∧ hi ≤ xs.length then
          some [(.int .i64 ys.length, setS s i (.row mv eb t ((castT h xs).take lo ++ (ys ++ (castT h xs).drop (lo + ys.length)))))] else none) else none
      | _ => none
    | _ => none
  | none => none
theorem cpyX_ok {t : Ty} {s : SS} {x : SV} {ys : Option (List t.den)} {K : SV → SS → Prop} (h : oAll (cpyX t s x ys) (fun p => K p.1 p.2)) : cpy1 t s x ys K := by
 unfold cpyX at h
 split at h <;> first | exact (oAll_none h).elim | skip
 split at h <;> first | exact (oAll_none h).elim | skip
 split at h <;> first | exact (oAll_none h).elim | skip
 rename_i hh
 split at h <;> first | exact (oAll_none h).elim | skip
 rename_i he
 split at h <;> first | exact (oAll_none h).elim | skip
 rename_i hc
 simp only [cpy1, hh, cpy2, dif_pos he]
 exact ⟨hc, oAll_pair h⟩
abbrev Run := Nat → List SV → List SB → Outs (SV × List SB)
def plugX (idx lent : List Nat) (s : SS) (p : SV × List SB) : SV × SS :=
 match p with
 | (r, hp') => ((unboIf lent r).ren (back idx s.hp.length), ⟨frRen (but2 (movedL idx hp')) s.fr, plugHp idx s.hp (unboHp lent hp')⟩)
def call3X (R : Run) (f : Nat) (idx lent : List Nat) (args : List SV) (s : SS) : Outs (SV × SS) :=
 if (lent.all fun i => !idx.contains i) = true then oMap (plugX idx lent s) (R f (SV.renL (posOf idx) args) ((selHp idx (posOf idx) s.hp).map SB.reset)) else none
def callX (R : Run) (f : Nat) (al : Option (List SV × List Nat)) (s : SS) : Outs (SV × SS) :=
 match al with
 | none => none
 | some (args, lent) => call3X R f (reach s.hp 400 (SV.refsL args) []) lent args s
def RunOk (R : Run) (Γ : List (Nat × Contract)) : Prop := ∀ f args hp K, oAll (R f args hp) (fun p => K p.1 p.2) → ∃ C, lkC Γ f = some C ∧ C args hp K
theorem callX_ok {R : Run} {Γ : List (Nat × Contract)} (hR : RunOk R Γ) {f : Nat} {al : Option (List SV × List Nat)} {s : SS} {K : SV → SS → Prop} (h : oAll (callX R f al s) (fun p => K p.1 p.2)) :
  ∃ C, lkC Γ f = some C ∧ callC1 C al s K := by
 unfold callX at h
 split at h <;> first | exact (oAll_none h).elim | skip
 unfold call3X at h
 split at h <;> first | exact (oAll_none h).elim | skip
 rename_i hc
 obtain ⟨C, h1, h2⟩ := hR _ _ _ (fun r hp' => plug _ _ s r hp' K) (oAll_map h)
 exact ⟨C, h1, hc, h2⟩
def effX (R : Run) (o : AOp) (s : SS) : Outs (SV × SS) :=
 match o with
 | .isn ng x => match s.get x with
  | .nils => some [(.bool (!ng), s)]
  | y => match cont s.hp y with
   | some C => match C.xs with
    | [] => some [(.bool true, s), (.bool false, s)]
    | _ => some [(.bool ng, s)]
   | none => none
 | .alc zs => some [(.ptr s.hp.length 0, pushS s (.struct zs))]
 | .alcT T zs => some [(.pty s.hp.length T, pushS s (.struct zs))]
 | .box x => match flatS (s.get x) with
  | some l => some [(.ptr s.hp.length 0, pushS s (.struct l))]
  | none => none
 | .st n x v => storesX n s (s.get x) (s.get v)
 | .mu va kt vt m k v => muX va kt vt s (s.get m) (s.get k) (s.get v)
 | .s2b x => match s.get x with
  | .str b => if b.size ≤ 140737488355328 then some [(.own s.hp.length, pushS s (.row true 1 .byte b.data.toList))] else none
  | _ => none
 | .mks eb t n c => mksX eb t s (s.get n) (s.get c)
 | .dl kt m k => dlX kt s (s.get m) (s.get k)
 | .mkb x => mkbX s (s.get x)
 | .cpy t x y => cpyX t s (s.get x) (srcOf s.hp t (s.get y))
 | .bldF zs parts => match bldC s zs parts with
  | some l => some [(.agg (frzAll s l (SV.rowsL l)).2, (frzAll s l (SV.rowsL l)).1)]
  | none => none
 | .bsl eb t n parts => bslX eb t n s (partsC s t.size parts)
 | .bslP n parts => match partsC s 1 parts with
  | some l => some [(.svw s.hp.length n, pushS s (.struct l))]
  | none => none
 | .app eb t x y => match settle s (s.get x) with
  | (x', s') => appX eb t s' x' (srcOf s.hp t (s.get y))
 | .mkm va kt vt => some [(.mp s.hp.length, pushS s (.map va kt vt []))]
 | .call f ms args => callX R f (lend s.hp ms (args.map s.get)) s
 | .callv x ms args => match s.get x with
  | .fn f caps => if f < 1000000 then callX R f (lend s.hp (ms ++ nones caps) (args.map s.get ++ caps)) s
   else callX R (f % 1000000) (lend s.hp (nones caps ++ ms) (caps ++ args.map s.get)) s
  | _ => none
 | _ => none
theorem effX_ok {R : Run} {Γ : List (Nat × Contract)} (hR : RunOk R Γ) {o : AOp} {s : SS} {K : SV → SS → Prop} (h : oAll (effX R o s) (fun p => K p.1 p.2)) : eff Γ o s K := by
 cases o with
 | isn ng x =>
  simp only [effX] at h
  split at h
  ·rename_i hx; simp only [eff, hx]; exact oAll_pair h
  ·rename_i hn
   split at h <;> first | exact (oAll_none h).elim | skip
   rename_i C hc
   have key : ∀ b : Bool, (b = true → C.xs = []) → K (.bool (bif ng then !b else b)) s := by
    split at h
    ·intro b _
     obtain ⟨l, hl, hp⟩ := h
     cases hl
     have h1 := hp (.bool true, s) (by simp)
     have h2 := hp (.bool false, s) (by simp)
     cases ng <;> cases b <;> first | exact h1 | exact h2
    ·rename_i hne
     intro b hb
     have hb' : b = false := by cases b <;> first | rfl | exact (hne (hb rfl)).elim
     subst hb'
     have := oAll_pair h
     cases ng <;> exact this
   simp only [eff]
   split <;> rename_i hx <;> first | (exact (hn hx).elim) | (rw [hc] at hx; cases hx; exact key) | (rw [hc] at hx; cases hx; done) | (simp only [hc]; exact key)
 | alc zs => simp only [effX] at h; simp only [eff]; exact oAll_pair h
 | alcT T zs => simp only [effX] at h; simp only [eff]; exact oAll_pair h
 | box x =>
  simp only [effX] at h
  split at h <;> first | exact (oAll_none h).elim | skip
  rename_i hx
  simp only [eff, hx]; exact oAll_pair h
 | st n x v => exact storesX_ok h
 | mu va kt vt m k v => exact muX_ok h
 | s2b x =>
  simp only [effX] at h
  split at h <;> first | exact (oAll_none h).elim | skip
  rename_i hx
  split at h <;> first | exact (oAll_none h).elim | skip
  rename_i hc
  simp only [eff, hx, s2b1]; exact ⟨hc, oAll_pair h⟩
 | mks eb t n c => exact mksX_ok h
 | dl kt m k => exact dlX_ok h
 | mkb x => exact mkbX_ok h
 | cpy t x y => exact cpyX_ok h
 | bldF zs parts =>
  simp only [effX] at h
  split at h <;> first | exact (oAll_none h).elim | skip
  rename_i hx
  simp only [eff, hx, bldF1]; exact oAll_pair h
 | bsl eb t n parts => exact bslX_ok h
 | bslP n parts =>
  simp only [effX] at h
  split at h <;> first | exact (oAll_none h).elim | skip
  rename_i hx
  simp only [eff, hx, bslP1]; exact oAll_pair h
 | app eb t x y => exact appX_ok h
 | mkm va kt vt => simp only [effX] at h; simp only [eff]; exact oAll_pair h
 | call f ms args =>
  obtain ⟨C, h1, h2⟩ := callX_ok hR h
  simp only [eff, h1]; exact h2
 | callv x ms args =>
  simp only [effX] at h
  split at h <;> first | exact (oAll_none h).elim | skip
  rename_i hx
  split at h
  ·rename_i hf
   obtain ⟨C, h1, h2⟩ := callX_ok hR h
   simp only [eff, hx, if_pos hf, h1]; exact h2
  ·rename_i hf
   obtain ⟨C, h1, h2⟩ := callX_ok hR h
   simp only [eff, hx, if_neg hf, h1]; exact h2
 | _ => exact (oAll_none h).elim
end Go.V
namespace Go.V
set_option linter.unusedSimpArgs false
set_option linter.unnecessarySimpa false
set_option linter.unusedVariables false
def stepX (R : Run) (o : AOper) (s : SS) : Outs SS :=
 match o.op.quiet with
 | true => match evX o.op s with
  | some v => some [s.put o.dst v]
  | none => none
 | false => oMap (fun p : SV × SS => p.2.put o.dst p.1) (effX R o.op s)
theorem stepX_ok {R : Run} {Γ : List (Nat × Contract)} (hR : RunOk R Γ) {o : AOper} {s : SS} {K : SS → Prop} (h : oAll (stepX R o s) K) : step Γ o s K := by
 unfold stepX at h
 unfold step
 split at h
 ·rename_i hq
  split at h <;> first | exact (oAll_none h).elim | skip
  rename_i hv
  rw [hq]
  exact evX_ok hv (K := goK s o.dst K) (oAll_one (p := K) h)
 ·rename_i hq
  rw [hq]
  exact effX_ok hR (K := goE o.dst K) (oAll_map h)
def runLX (R : Run) : List AOper → SS → Outs SS
 | [], s => some [s]
 | o :: r, s => match o.guard with
  | none => oBind (stepX R o s) (runLX R r)
  | some (slot, want) => match lkF s.fr slot with
   | .bool b => match b == want with
    | true => oBind (stepX R o (s.put (some slot) (.bool want))) (runLX R r)
    | false => runLX R r ((s.put (some slot) (.bool (!want))).put o.dst (.tup []))
   | .tup [] => runLX R r (s.put o.dst (.tup []))
   | _ => none
theorem runLX_ok {R : Run} {Γ : List (Nat × Contract)} (hR : RunOk R Γ) {K : SS → Prop} : ∀ (l : List AOper) (s : SS), oAll (runLX R l s) K → runL Γ l s K
 | [], s, h => show K s from oAll_one (p := K) h
 | o :: r, s, h => by
  unfold runLX at h
  unfold runL
  split at h
  ·rename_i hg
   simp only [hg]
   exact stepX_ok hR (oAll_mono (oAll_bind h) fun s' hs' => runLX_ok hR r s' hs')
  ·rename_i hg
   simp only [hg]
   split at h <;> first | exact (oAll_none h).elim | skip
   ·rename_i hl
    simp only [hl]
    split at h
    ·rename_i hb
     rw [hb]
     exact stepX_ok hR (oAll_mono (oAll_bind h) fun s' hs' => runLX_ok hR r s' hs')
    ·rename_i hb
     rw [hb]
     exact runLX_ok hR r _ h
   ·rename_i hl
    simp only [hl]
    exact runLX_ok hR r _ h
/-! ### regions whose order is open -/
def eqKX (s : SS) (d : Option Nat) (v : SV) : Bool :=
 match d with
 | some d => svEq (lkF s.fr d) v
 | none => false
def chkX (o : AOper) (s : SS) : Bool :=
 match o.guard with
 | none => match evX o.op s with
  | some v => eqKX s o.dst v
  | none => false
 | some (slot, want) => match lkF s.fr slot with
  | .bool b => match b == want with
   | true => match evX o.op s with
    | some v => eqKX s o.dst v
    | none => false
   | false => eqKX s o.dst (.tup [])
  | .tup [] => eqKX s o.dst (.tup [])
  | _ => false
theorem eqKX_ok {s : SS} {d : Option Nat} {v : SV} (h : eqKX s d v = true) : eqK s d v := by
 unfold eqKX at h
 split at h
 ·exact svEq_eq _ _ h
 ·cases h
theorem chkX_ok {o : AOper} {s : SS} (h : chkX o s = true) : chk1 o s := by
 unfold chkX at h
 unfold chk1
 split at h
 ·rename_i hg
  split at h <;> first | cases h | skip
  rename_i hv
  simp only [hg]
  exact evX_ok hv (eqKX_ok h)
 ·rename_i hg
  simp only [hg]
  split at h <;> first | cases h | skip
  ·rename_i hl
   simp only [hl]
   split at h
   ·rename_i hb
    rw [hb]
    split at h <;> first | cases h | skip
    rename_i hv
    exact evX_ok hv (eqKX_ok h)
   ·rename_i hb
    rw [hb]
    exact eqKX_ok h
  ·rename_i hl
   simp only [hl]
   exact eqKX_ok h
def chkLX (al : List AOper) : List Nat → SS → Bool
 | [], _ => true
 | i :: r, s => chkX (atA al i) s && chkLX al r s
theorem chkLX_ok {al : List AOper} {s : SS} : ∀ l, chkLX al l s = true → chkL al l s
 | [], _ => trivial
 | i :: r, h => by
  simp only [chkLX, Bool.and_eq_true] at h
  exact ⟨chkX_ok h.1, chkLX_ok r h.2⟩
def runEX (R : Run) (o : AOper) (s : SS) : Outs (Bool × SS) :=
 match o.guard with
 | none => oMap (fun s' => (true, s')) (stepX R o s)
 | some (slot, want) => match lkF s.fr slot with
  | .bool b => match b == want with
   | true => oMap (fun s' => (true, s')) (stepX R o (s.put (some slot) (.bool want)))
   | false => some [(false, (s.put (some slot) (.bool (!want))).put o.dst (.tup []))]
  | .tup [] => some [(false, s.put o.dst (.tup []))]
  | _ => none
theorem runEX_ok {R : Run} {Γ : List (Nat × Contract)} (hR : RunOk R Γ) {o : AOper} {s : SS} {K1 K2 : SS → Prop} (h : oAll (runEX R o s) (fun p => (p.1 = true → K1 p.2) ∧ (p.1 = false → K2 p.2))) : runE Γ o s K1 K2 := by
 unfold runEX at h
 unfold runE
 split at h
 ·rename_i hg
  simp only [hg]
  exact stepX_ok hR (oAll_mono (oAll_map h) fun s' hs' => hs'.1 rfl)
 ·rename_i hg
  simp only [hg]
  split at h <;> first | exact (oAll_none h).elim | skip
  ·rename_i hl
   simp only [hl]
   split at h
   ·rename_i hb
    rw [hb]
    exact stepX_ok hR (oAll_mono (oAll_map h) fun s' hs' => hs'.1 rfl)
   ·rename_i hb
    rw [hb]
    exact (oAll_one h).2 rfl
  ·rename_i hl
   simp only [hl]
   exact (oAll_one h).2 rfl
def afterX (al : List AOper) (pend : List Nat) (f : SS → Outs SS) (p : Bool × SS) : Outs SS :=
 match p with
 | (true, s) => match chkLX al pend s with
  | true => f s
  | false => none
 | (false, s) => f s
theorem afterX_ok {al : List AOper} {pend : List Nat} {f : SS → Outs SS} {p : Bool × SS} {K : SS → Prop} (h : oAll (afterX al pend f p) K) : (p.1 = true → chkL al pend p.2 ∧ oAll (f p.2) K) ∧ (p.1 = false → oAll (f p.2) K) := by
 obtain ⟨b, s⟩ := p
 cases b
 ·exact ⟨fun e => (by cases e), fun _ => h⟩
 ·simp only [afterX] at h
  split at h <;> first | exact (oAll_none h).elim | skip
  rename_i hc
  exact ⟨fun _ => ⟨chkLX_ok _ hc, h⟩, fun e => (by cases e)⟩
def runDX (R : Run) (al : List AOper) : List DI → SS → Outs SS
 | [], s => some [s]
 | .q i :: r, s => oBind (runEX R (atA al i) s) (fun p => runDX R al r p.2)
 | .e i pend :: r, s => oBind (runEX R (atA al i) s) (afterX al pend (runDX R al r))
theorem runDX_ok {R : Run} {Γ : List (Nat × Contract)} (hR : RunOk R Γ) {al : List AOper} {K : SS → Prop} : ∀ (l : List DI) (s : SS), oAll (runDX R al l s) K → runD Γ al l s K
 | [], s, h => show K s from oAll_one (p := K) h
 | .q i :: r, s, h => by
  unfold runDX at h
  unfold runD
  exact runEX_ok hR (oAll_mono (oAll_bind h) fun p hp => ⟨fun _ => runDX_ok hR r _ hp, fun _ => runDX_ok hR r _ hp⟩)
 | .e i pend :: r, s, h => by
  unfold runDX at h
  unfold runD
  exact runEX_ok hR (oAll_mono (oAll_bind h) fun p hp => ⟨fun e => ⟨((afterX_ok hp).1 e).1, runDX_ok hR r _ ((afterX_ok hp).1 e).2⟩, fun e => runDX_ok hR r _ ((afterX_ok hp).2 e)⟩)
def runTX (R : Run) (al : List AOper) : DT → SS → Outs SS
 | .done, s => some [s]
 | .q i r, s => oBind (runEX R (atA al i) s) (fun p => runTX R al r p.2)
 | .e i pend r alt, s => oApp (oBind (runEX R (atA al i) s) (afterX al pend (runTX R al r))) (runTX R al alt s)
 | .no, _ => some []
theorem runTX_ok {R : Run} {Γ : List (Nat × Contract)} (hR : RunOk R Γ) {al : List AOper} {K : SS → Prop} : ∀ (t : DT) (s : SS), oAll (runTX R al t s) K → runT Γ al t s K
 | .done, s, h => show K s from oAll_one (p := K) h
 | .q i r, s, h => by
  unfold runTX at h
  unfold runT
  exact runEX_ok hR (oAll_mono (oAll_bind h) fun p hp => ⟨fun _ => runTX_ok hR r _ hp, fun _ => runTX_ok hR r _ hp⟩)
 | .e i pend r alt, s, h => by
  unfold runTX at h
  unfold runT
  have h := oAll_app h
  exact ⟨runEX_ok hR (oAll_mono (oAll_bind h.1) fun p hp => ⟨fun e => ⟨((afterX_ok hp).1 e).1, runTX_ok hR r _ ((afterX_ok hp).1 e).2⟩, fun e => runTX_ok hR r _ ((afterX_ok hp).2 e)⟩), runTX_ok hR alt s h.2⟩
 | .no, s, h => trivial
/-! ### code -/
def keepX (keep : List Nat) (s : SS) : AE × SS := (.normal, ⟨keepF keep s.fr, s.hp⟩)
def blockE (id : Nat) (p : AE × SS) : AE × SS :=
 match p with
 | (.exit id', s) => match id' == id with
  | true => (.normal, s)
  | false => (.exit id', s)
 | p => p
def contE (f : SS → Outs (AE × SS)) (p : AE × SS) : Outs (AE × SS) :=
 match p with
 | (.normal, s) => f s
 | p => some [p]
def normals (n0 : Nat) (keep : List Nat) : List (AE × SS) → List SS
 | [] => []
 | p :: r => match p with
  | (.normal, s) => canon n0 keep s :: normals n0 keep r
  | _ => normals n0 keep r
def exits : List (AE × SS) → List (AE × SS)
 | [] => []
 | p :: r => match p with
  | (.normal, s) => exits r
  | p => p :: exits r
theorem normals_mem {n0 : Nat} {keep : List Nat} {s : SS} : ∀ {l : List (AE × SS)}, (AE.normal, s) ∈ l → canon n0 keep s ∈ normals n0 keep l
 | p :: r, h => by
  rcases List.mem_cons.1 h with e | hr
  ·subst e; exact List.mem_cons_self
  ·have ih := normals_mem (n0 := n0) (keep := keep) hr
   simp only [normals]
   split
   ·exact List.mem_cons_of_mem _ ih
   ·exact ih
theorem exits_mem {p : AE × SS} (hp : p.1 ≠ .normal) : ∀ {l : List (AE × SS)}, p ∈ l → p ∈ exits l
 | q :: r, h => by
  simp only [exits]
  rcases List.mem_cons.1 h with e | hr
  ·subst e
   split
   ·exact absurd rfl hp
   ·exact List.mem_cons_self
  ·have ih := exits_mem hp hr
   split
   ·exact ih
   ·exact List.mem_cons_of_mem _ ih
def consL (l : List (AE × SS)) (o : Outs (AE × SS)) : Outs (AE × SS) :=
 match o with
 | some r => some (l ++ r)
 | none => none
def iterX (body : SS → Outs (AE × SS)) (n0 : Nat) (keep : List Nat) : Nat → List SS → Outs (AE × SS)
 | 0, _ => none
 | n + 1, ss => match ss with
  | [] => some []
  | ss => match oBindL body ss with
   | none => none
   | some l => consL (exits l) (iterX body n0 keep n (nubL ssEq (normals n0 keep l)))
def xc (R : Run) (N : Nat) (n0 : Nat) : AS → SS → Outs (AE × SS)
 | .skip, s => some [(.normal, s)]
 | .reg ops keep, s => oMap (keepX keep) (runLX R ops s)
 | .regD ops items keep, s => oMap (keepX keep) (runDX R ops items s)
 | .regT ops items keep, s => oMap (keepX keep) (runTX R ops items s)
 | .seq x y, s => oBind (xc R N n0 x s) (contE (xc R N n0 y))
 | .cond c x y, s => match s.get c with
  | .bool b => match b with
   | true => xc R N n0 x s
   | false => xc R N n0 y s
  | _ => none
 | .block id x, s => oMap (blockE id) (xc R N n0 x s)
 | .loop id keep x, s => iterX (xc R N n0 x) n0 keep N [canon n0 keep s]
 | .exit id, s => some [(.exit id, s)]
 | .ret, s => some [(.ret, s)]
 | .lift d k eb t x, s => xc R N n0 x (liftS s d k eb t (lkF s.fr d))
 | .frz d x, s => xc R N n0 x (frzS s (lkF s.fr d))
 | .swp i r c x, s => xc R N n0 x (swpS s i (cellV (s.hp[r]?) c none))
 | .no, _ => none
structure LG where
 s : SS
 n : Nat
 ss : List SS
 out : List (AE × SS)
 keep : List Nat
 x : AS
def LA (R : Run) (N n0 : Nat) : LoopAnn where
 G := LG
 I g := g.s
 R g0 g := g.keep = g0.keep ∧ g.x = g0.x ∧ iterX (xc R N n0 g.x) n0 g.keep g.n g.ss = some g.out ∧ g.s ∈ g.ss ∧ ∀ p ∈ g.out, p ∈ g0.out
 μ g := g.n
def ids : AS → List Nat
 | .seq x y => ids x ++ ids y
 | .cond _ x y => ids x ++ ids y
 | .block _ x => ids x
 | .loop id _ x => id :: ids x
 | .lift _ _ _ _ x => ids x
 | .frz _ x => ids x
 | .swp _ _ _ x => ids x
 | _ => []
theorem lkA_map (A : LoopAnn) (id : Nat) : ∀ l : List Nat, id ∈ l → lkA (l.map fun i => (i, A)) id = some A
 | i :: r, h => by
  simp only [List.map_cons, lkA]
  rcases List.mem_cons.1 h with rfl | h
  ·simp
  ·cases hb : i == id
   ·exact lkA_map A id r h
   ·rfl
section code
variable {R : Run} {Γ : List (Nat × Contract)} {N n0 : Nat} {L : List (Nat × LoopAnn)}
theorem xc_rc (hR : RunOk R Γ) : ∀ (ac : AS) (s : SS) (Q : AE → SS → Prop), (∀ id ∈ ids ac, lkA L id = some (LA R N n0)) → oAll (xc R N n0 ac s) (fun p => Q p.1 p.2) → rc Γ L n0 ac Q s
 | .skip, s, Q, hL, h => show Q .normal s from oAll_pair (K := Q) h
 | .reg ops keep, s, Q, hL, h => runLX_ok hR _ _ (oAll_map (p := fun p : AE × SS => Q p.1 p.2) (f := keepX keep) h)
 | .regD ops items keep, s, Q, hL, h => runDX_ok hR _ _ (oAll_map (p := fun p : AE × SS => Q p.1 p.2) (f := keepX keep) h)
 | .regT ops items keep, s, Q, hL, h => runTX_ok hR _ _ (oAll_map (p := fun p : AE × SS => Q p.1 p.2) (f := keepX keep) h)
 | .seq x y, s, Q, hL, h => by
  simp only [rc]
  refine xc_rc hR x s _ (fun id hid => hL id (List.mem_append_left _ hid)) (oAll_mono (oAll_bind h) fun p hp => ?_)
  obtain ⟨e, s'⟩ := p
  cases e with
  | normal => exact xc_rc hR y s' Q (fun id hid => hL id (List.mem_append_right _ hid)) hp
  | exit id => exact oAll_pair (K := Q) hp
  | ret => exact oAll_pair (K := Q) hp
 | .cond c x y, s, Q, hL, h => by
  simp only [xc] at h
  split at h <;> first | exact (oAll_none h).elim | skip
  rename_i hc
  simp only [rc, hc]
  split at h
  ·exact xc_rc hR x s Q (fun id hid => hL id (List.mem_append_left _ hid)) h
  ·exact xc_rc hR y s Q (fun id hid => hL id (List.mem_append_right _ hid)) h
 | .block id x, s, Q, hL, h => by
  simp only [rc]
  refine xc_rc hR x s _ hL (oAll_mono (oAll_map h) fun p hp => ?_)
  obtain ⟨e, s'⟩ := p
  cases e with
  | normal => exact hp
  | ret => exact hp
  | exit id' =>
   simp only [blockE] at hp
   simp only [blockQ]
   split at hp
   ·rename_i hb; rw [hb]; exact hp
   ·rename_i hb; rw [hb]; exact hp
 | .loop id keep x, s, Q, hL, h => by
  simp only [xc] at h
  simp only [rc, hL id List.mem_cons_self]
  obtain ⟨out, ho, hQ⟩ := h
  refine ⟨(⟨canon n0 keep s, N, [canon n0 keep s], out, keep, x⟩ : LG), rfl, ⟨rfl, rfl, ho, List.mem_cons_self, fun p hp => hp⟩, ?_⟩
  rintro ⟨gs, gn, gss, gout, gkeep, gx⟩ ⟨hk, hx, hg, hm, hsub⟩
  simp only at hk hx hg hm hsub
  subst hk hx
  show rc Γ L n0 gx _ gs
  cases gn with
  | zero => cases hg
  | succ n =>
   unfold iterX at hg
   split at hg
   ·cases hm
   ·split at hg <;> first | cases hg | skip
    rename_i l hl
    cases hr : iterX (xc R N n0 gx) n0 gkeep n (nubL ssEq (normals n0 gkeep l)) with
    | none => rw [hr] at hg; cases hg
    | some r =>
     rw [hr] at hg
     simp only [consL, Option.some.injEq] at hg
     subst hg
     have hall : oAll (oBindL (xc R N n0 gx) gss) (fun p => p ∈ l) := ⟨l, hl, fun p hp => hp⟩
     refine xc_rc hR gx gs _ (fun id hid => hL id (List.mem_cons_of_mem _ hid)) (oAll_mono (oAll_bindL hall gs hm) fun p hp => ?_)
     obtain ⟨e, s'⟩ := p
     cases e with
     | normal =>
      refine ⟨(⟨canon n0 gkeep s', n, nubL ssEq (normals n0 gkeep l), r, gkeep, gx⟩ : LG), rfl, ⟨rfl, rfl, hr, ?_, fun p hp => hsub p (List.mem_append_right _ hp)⟩, Nat.lt_succ_self n⟩
      exact nubL_all (fun a b h => ssEq_eq h) _ _ (normals_mem hp)
     | exit id' => exact hQ _ (hsub _ (List.mem_append_left _ (exits_mem (by simp) hp)))
     | ret => exact hQ _ (hsub _ (List.mem_append_left _ (exits_mem (by simp) hp)))
 | .exit id, s, Q, hL, h => show Q (.exit id) s from oAll_pair (K := Q) h
 | .ret, s, Q, hL, h => show Q .ret s from oAll_pair (K := Q) h
 | .lift d k eb t x, s, Q, hL, h => by simp only [rc]; exact xc_rc hR x _ Q hL h
 | .frz d x, s, Q, hL, h => by simp only [rc]; exact xc_rc hR x _ Q hL h
 | .swp i r c x, s, Q, hL, h => by simp only [rc]; exact xc_rc hR x _ Q hL h
 | .no, s, Q, hL, h => (oAll_none h).elim
end code
/-! ### functions -/
inductive FX where
 | code (ac : AS) (rs : List RT) (n : Nat)
 | nat (g : List SV → List SB → Outs (SV × List SB))
def lkX2 : List (Nat × FX) → Nat → Option FX
 | [], _ => none
 | (k, c) :: r, n => bif k == n then some c else lkX2 r n
def finX (n0 : Nat) (rs : List RT) (s : SS) : Outs (SV × List SB) :=
 match resL s rs with
 | some l => match reach s.hp 400 (refsHp n0 s.hp ++ (oneV l).refs) (List.range n0) with
  | idx => some [((oneV l).ren (posOf idx), selHp idx (posOf idx) s.hp)]
 | none => none
def finE (n0 : Nat) (rs : List RT) (p : AE × SS) : Outs (SV × List SB) :=
 match p with
 | (.exit _, _) => none
 | (_, s) => finX n0 rs (settleTs rs s)
def resEq (a b : SV × List SB) : Bool := svEq a.1 b.1 && eqvL sbEq a.2 b.2
theorem resEq_eq (a b : SV × List SB) (h : resEq a b = true) : a = b := by
 simp only [resEq, Bool.and_eq_true] at h
 exact Prod.ext (svEq_eq _ _ h.1) (eqvL_eq (fun x y h => sbEq_eq h) _ _ h.2)
def nubO (o : Outs (SV × List SB)) : Outs (SV × List SB) :=
 match o with
 | some l => some (nubL resEq l)
 | none => none
theorem nubO_all {o : Outs (SV × List SB)} {p : SV × List SB → Prop} (h : oAll (nubO o) p) : oAll o p := by
 unfold nubO at h
 split at h <;> first | exact (oAll_none h).elim | skip
 obtain ⟨l, hl, hp⟩ := h
 cases hl
 exact ⟨_, rfl, fun x hx => hp x (nubL_all resEq_eq _ x hx)⟩
def runF (T : List (Nat × FX)) (N : Nat) : Nat → Run
 | 0, _, _, _ => none
 | n + 1, f, args, hp => match lkX2 T f with
  | some (.code ac rs k) => match Nat.ble args.length k with
   | true => nubO (oBind (xc (runF T N n) N hp.length ac ⟨frArgs 0 args, hp⟩) (finE hp.length rs))
   | false => none
  | some (.nat g) => g args hp
  | none => none
def CX (R : Run) (f : Nat) : Contract := fun args hp K => oAll (R f args hp) (fun p => K p.1 p.2)
theorem finE_ok {n0 : Nat} {rs : List RT} {K : SV → List SB → Prop} {p : AE × SS} (h : oAll (finE n0 rs p) (fun q => K q.1 q.2)) : fin n0 rs K p.1 p.2 := by
 have key : ∀ s : SS, oAll (finX n0 rs s) (fun q => K q.1 q.2) → finS n0 rs s K := by
  intro s h
  unfold finX at h
  split at h <;> first | exact (oAll_none h).elim | skip
  rename_i hr
  simp only [finS, hr, finO, finR, finI]
  exact oAll_pair h
 obtain ⟨e, s⟩ := p
 cases e with
 | normal => exact key _ h
 | ret => exact key _ h
 | exit id => exact (oAll_none h).elim
inductive TOk (P : Program) : List (Nat × FX) → Prop where
 | nil : TOk P []
 | code {f : Nat} {ac : AS} {rs : List RT} {n : Nat} {T : List (Nat × FX)} (h : okF P f ac rs n = true) (r : TOk P T) : TOk P ((f, .code ac rs n) :: T)
 | nat {f : Nat} {g : List SV → List SB → Outs (SV × List SB)} {T : List (Nat × FX)} (h : Sound P f (fun args hp K => oAll (g args hp) (fun p => K p.1 p.2))) (hc : Callable P f) (r : TOk P T) : TOk P ((f, .nat g) :: T)
def FX.ok (P : Program) (f : Nat) : FX → Prop
 | .code ac rs n => okF P f ac rs n = true
 | .nat g => Sound P f (fun args hp K => oAll (g args hp) (fun p => K p.1 p.2))
theorem TOk.at {P : Program} {T : List (Nat × FX)} (h : TOk P T) {f : Nat} {x : FX} (hx : lkX2 T f = some x) :
  Callable P f ∧ x.ok P f := by
 induction h with
 | nil => cases hx
 | @code g ac rs n T h r ih =>
  simp only [lkX2] at hx
  cases hf : g == f <;> rw [hf] at hx
  ·exact ih hx
  ·cases hx; have := beq_iff_eq.1 hf; subst this; exact ⟨callable_of_okF h, h⟩
 | @nat g k T h hc r ih =>
  simp only [lkX2] at hx
  cases hf : g == f <;> rw [hf] at hx
  ·exact ih hx
  ·cases hx; have := beq_iff_eq.1 hf; subst this; exact ⟨hc, h⟩
theorem lkC_map {R : Run} {f : Nat} : ∀ {T : List (Nat × FX)} {x : FX}, lkX2 T f = some x → lkC (T.map fun p => (p.1, CX R p.1)) f = some (CX R f)
 | (k, c) :: r, x, h => by
  simp only [lkX2] at h
  simp only [List.map_cons, lkC]
  cases hf : k == f <;> rw [hf] at h
  ·exact lkC_map h
  ·have := beq_iff_eq.1 hf; subst this; rfl
theorem lkC_map' {R : Run} {f : Nat} {C : Contract} : ∀ {T : List (Nat × FX)}, lkC (T.map fun p => (p.1, CX R p.1)) f = some C → C = CX R f ∧ ∃ x, lkX2 T f = some x
 | [], h => by cases h
 | (k, c) :: r, h => by
  simp only [List.map_cons, lkC] at h
  simp only [lkX2]
  cases hf : k == f <;> rw [hf] at h
  ·exact lkC_map' h
  ·have := beq_iff_eq.1 hf; subst this; cases h; exact ⟨rfl, _, rfl⟩
theorem runF_sound {P : Program} {T : List (Nat × FX)} (hT : TOk P T) (N : Nat) : ∀ (n f : Nat), Sound P f (CX (runF T N n) f)
 | 0, f => fun args hp K h => (oAll_none (by simpa only [CX, runF] using h)).elim
 | n + 1, f => by
  cases hx : lkX2 T f with
  | none => intro args hp K h; simp only [CX, runF, hx] at h; exact (oAll_none h).elim
  | some x =>
   cases x with
   | nat g =>
    have h1 := (hT.at hx).2
    intro args hp K h
    simp only [CX, runF, hx] at h
    exact h1 args hp K h
   | code ac rs k =>
    have h1 := (hT.at hx).2
    have hΓ : GOk P (T.map fun p => (p.1, CX (runF T N n) p.1)) := by
     intro g C hg
     obtain ⟨rfl, y, hy⟩ := lkC_map' hg
     exact ⟨runF_sound hT N n g, (hT.at hy).1⟩
    have hR : RunOk (runF T N n) (T.map fun p => (p.1, CX (runF T N n) p.1)) := by
     intro g args hp K h
     cases hy : lkX2 T g with
     | some y => exact ⟨_, lkC_map hy, h⟩
     | none =>
      exfalso
      cases n with
      | zero => exact oAll_none (by simpa only [runF] using h)
      | succ n => simp only [runF, hy] at h; exact oAll_none h
    refine sound_of_okF h1 hΓ ?_
    intro args hp K h
    simp only [CX, runF, hx] at h
    split at h <;> first | exact (oAll_none h).elim | skip
    rename_i hb
    refine ⟨Nat.le_of_ble_eq_true hb, (ids ac).map fun i => (i, LA (runF T N n) N hp.length), ?_⟩
    exact xc_rc hR ac _ _ (fun id hid => lkA_map _ id _ hid) (oAll_mono (oAll_bind (nubO_all h)) fun p hp' => finE_ok hp')
theorem run_told {P : Program} {T : List (Nat × FX)} (hT : TOk P T) {N n f : Nat} {args : List SV} {hp : List SB} {l : List (SV × List SB)} (h : runF T N n f args hp = some l) : Sound P f (fun a h K => a = args ∧ h = hp ∧ ∀ p ∈ l, K p.1 p.2) := by
 intro a hp' K hc
 obtain ⟨rfl, rfl, hk⟩ := hc
 exact runF_sound hT N n f a hp' K ⟨l, h, hk⟩
end Go.V
namespace Go.V
open Go.Proofs Go.Shelf Go.RowKit
set_option maxRecDepth 100000
set_option linter.unusedSimpArgs false
set_option linter.unnecessarySimpa false
set_option linter.unusedVariables false
def blankB : ByteArray := ⟨#[32]⟩
def wordsB (s : ByteArray) : List ByteArray := (splitL 32 s.data.toList).map bsOf
theorem split_words (s : ByteArray) : Lib.splitB blankB 0 (Lib.countB s blankB) s = wordsB s := by
 have h := Lib.splitB_data blankB 0 (Lib.countB s blankB) s
 have e : Lib.splitK blankB.data.toList 0 (Lib.countB s blankB) s.data.toList = splitL 32 s.data.toList := split_one 32 s.data.toList
 rw [e] at h
 unfold wordsB
 rw [← h, List.map_map]
 conv => lhs; rw [← List.map_id (Lib.splitB blankB 0 (Lib.countB s blankB) s)]
 apply List.map_congr_left
 intro x _
 cases x; simp [bsOf]
theorem splitL_sum : ∀ l : List UInt8, ∀ x ∈ splitL 32 l, x.length ≤ l.length
 | [], x, h => by simp [splitL] at h; subst h; simp
 | y :: r, x, h => by
  by_cases hy : y = 32
  ·rw [splitL_eq hy] at h
   rcases List.mem_cons.1 h with rfl | h
   ·simp
   ·have := splitL_sum r x h; simp; omega
  ·cases hr : splitL 32 r with
   | nil => unfold splitL at h; rw [if_neg hy, hr] at h; simp at h; subst h; simp
   | cons z zs =>
    rw [splitL_ne hy hr] at h
    rcases List.mem_cons.1 h with rfl | h
    ·have := splitL_sum r z (by rw [hr]; exact List.mem_cons_self ..); simp; omega
    ·have := splitL_sum r x (by rw [hr]; exact List.mem_cons_of_mem _ h); simp; omega
theorem splitL_count : ∀ l : List UInt8, (splitL 32 l).length ≤ l.length + 1
 | [] => by simp [splitL]
 | y :: r => by
  have := splitL_count r
  by_cases hy : y = 32
  ·rw [splitL_eq hy]; simp; omega
  ·cases hr : splitL 32 r with
   | nil => unfold splitL; rw [if_neg hy, hr]; simp
   | cons z zs => rw [splitL_ne hy hr]; rw [hr] at this; simp at this ⊢; omega
theorem splitL_ne_nil (l : List UInt8) : splitL 32 l ≠ [] := by
 cases l with
 | nil => simp [splitL]
 | cons y r =>
  by_cases hy : y = 32
  ·rw [splitL_eq hy]; simp
  ·cases hr : splitL 32 r with
   | nil => unfold splitL; rw [if_neg hy, hr]; simp
   | cons z zs => rw [splitL_ne hy hr]; simp
theorem rdL_str7 {w : World} {F : Nat → Prop} : ∀ (l : List ByteArray), (∀ x ∈ l, x.size ≤ maxLen) → rdL (rd w F .str) l (l.map Value.string)
 | [], _ => by simp [rdL]
 | x :: r, h => ⟨[_], _, rfl, by simp only [rd]; exact ⟨trivial, h x (by simp)⟩, rdL_str7 r (fun y hy => h y (List.mem_cons_of_mem _ hy))⟩
theorem info9 : (Tryz.prog.info? 9).map (fun i => (i.zero, i.size, i.bytes)) = some (some (.string ByteArray.empty), 1, 16) := by kernel_rfl
def C26 : Contract := fun args hp K => match args, hp with
 | [.str s, .str sep], [] => sep = blankB ∧ s.size ≤ 100000 ∧ K (.own 0) [.row true 16 .str (wordsB s)]
 | _, _ => False
theorem s26 : Sound Tryz.prog 26 C26 := by
 intro args hp K h E vs hs hg hd
 unfold C26 at h
 split at h
 ·rename_i s sep
  obtain ⟨rfl, hsz, h⟩ := h
  simp only [denL, den] at hd
  obtain ⟨v, r, rfl, ⟨rfl, _⟩, v2, r2, rfl, ⟨rfl, _⟩, rfl⟩ := hd
  have hgn : Tryz.prog.globalNamed "internal/bytealg.MaxLen" = some (Tryz.split_ren.g 1) := by kernel_rfl
  obtain ⟨cs, hv, hgv⟩ := gl_cell hg (by simp [gnames]) hgn
  obtain ⟨m, rfl⟩ := hgv.2.2.1 rfl
  have hcell := World.var?_cell hgn hv 0
  refine (Any.strings_Split Tryz.split info9 s blankB m E.w (by omega) (by simpa using hcell) (by decide)).mono ?_
  rintro e w' ⟨rfl, rfl⟩
  have hlen : (wordsB s).length = Lib.countB s blankB + 1 := by
   rw [← split_words, Lib.splitB_all blankB (by decide) 0 _ s rfl]
  rw [← hlen, split_words]
  have hc : Chg E.w (E.w.alloc (.cells ((wordsB s).map Value.string).toArray 9)) (fun _ => False) := by
   have hb := (Below.refl E.w.heap.size E.w).alloc (Nat.le_refl _) (.cells ((wordsB s).map Value.string).toArray 9)
   exact Chg.below hb
  have hw1 : (wordsB s).length ≤ s.size + 1 := by
   unfold wordsB
   rw [List.length_map]
   have := splitL_count s.data.toList
   have e : s.data.toList.length = s.size := by simp
   omega
  have hmem : ∀ x ∈ wordsB s, x.size ≤ maxLen := by
   intro x hx
   obtain ⟨l, hl, rfl⟩ := List.mem_map.1 hx
   rw [bsOf_size]
   have := splitL_sum _ l hl
   have e : s.data.toList.length = s.size := by simp
   have := maxLen_val
   omega
  have hn : ∀ b, (⟨some E.w.heap.size, .slice (some ⟨E.w.heap.size, 0, none⟩) (wordsB s).length (wordsB s).length⟩ : RV).blk = some b → E.w.heap.size ≤ b ∧ b < (E.w.alloc (.cells ((wordsB s).map Value.string).toArray 9)).heap.size := by
   intro b hb
   cases hb
   simp
  have hhp : (E.w.alloc (.cells ((wordsB s).map Value.string).toArray 9)).heap[E.w.heap.size]? = some (.cells ((wordsB s).map Value.string).toArray 9 (0, 0)) := World.alloc_heap_new _ _
  have hp := hs.push (sb' := .row true 16 .str (wordsB s)) hc hn (.inr ⟨E.w.heap.size, 0, (wordsB s).length, ((wordsB s).map Value.string).toArray, 9, (0, 0), _, rfl, rfl, hhp, ⟨.inl rfl, by simp⟩, Nat.le_refl _, by have := maxLen_val; omega, by simp [Ty.size], by omega, rfl, by
   have e : ((((wordsB s).map Value.string).toArray).toList.drop 0).take ((wordsB s).length * (Ty.str).size) = (wordsB s).map Value.string := by
    simp only [Ty.size, Nat.mul_one, List.drop_zero]
    exact List.take_of_length_le (by simp)
   rw [e]
   exact rdL_str7 _ hmem⟩)
  refine ⟨.own 0, _, _, _, rfl, rfl, h, hp.1, ?_, Ev.push hs hc (fun b hb => (hn b hb).1), ?_⟩
  ·simp only [den]
   have hN2 : E.N = 0 := hs.n
   refine ⟨by show 0 < E.N + 1; omega, ?_, rfl⟩
   show _ = (upR E.ρ E.N _ 0).val
   rw [hN2, upd_same]
  ·have hid : Id 0 E.ρ [] E.ρ := Id.refl [] E.ρ
   exact hid.push hs.n
 ·exact h.elim
theorem s26_c : Callable Tryz.prog 26 := ⟨_, Tryz.func26, rfl, by decide⟩
/-! ### natives for the run -/
def nSplit : List SV → List SB → Outs (SV × List SB)
 | [.str s, .str sep], [] => if sep.data.toList = [32] ∧ s.size ≤ 100000 then some [(.own 0, [.row true 16 .str (wordsB s)])] else none
 | _, _ => none
theorem nSplit_ok : Sound Tryz.prog 26 (fun args hp K => oAll (nSplit args hp) (fun p => K p.1 p.2)) := by
 intro args hp K h
 refine s26 args hp K ?_
 unfold nSplit at h
 unfold C26
 split at h
 ·split at h
  ·rename_i s sep hc
   refine ⟨?_, hc.2, oAll_pair (K := K) h⟩
   have := hc.1
   obtain ⟨⟨l⟩⟩ := sep
   have e : l = [32] := this
   subst e
   rfl
  ·exact (oAll_none h).elim
 ·exact (oAll_none h).elim
theorem nSplit_c : Callable Tryz.prog 26 := s26_c
def nNum : List SV → List SB → Outs (SV × List SB)
 | [.str s], [] => if s.size ≤ 100000 then (match natF s.data.toList with
  | some v => some [(.tup [.int .u64 v, .bool true], [])]
  | none => none) else none
 | _, _ => none
theorem nNum_ok : Sound Tryz.prog 28 (fun args hp K => oAll (nNum args hp) (fun p => K p.1 p.2)) := by
 intro args hp K h
 refine s28 args hp K ?_
 unfold nNum at h
 unfold C28
 split at h
 ·split at h
  ·rename_i s hs
   refine ⟨by omega, fun n b hn h1 h2 => ?_⟩
   cases hv : natF s.data.toList with
   | none => rw [hv] at h; exact (oAll_none h).elim
   | some v =>
    rw [hv] at h
    have h := oAll_pair (K := K) h
    cases b
    ·have := h2 rfl; rw [numP_natF, hv] at this; cases this
    ·obtain ⟨v', e, rfl⟩ := h1 rfl
     rw [numP_natF, hv] at e; cases e
     exact h
  ·exact (oAll_none h).elim
 ·exact (oAll_none h).elim
theorem nNum_c : Callable Tryz.prog 28 := ⟨_, Tryz.func28, rfl, by decide⟩
def nInt : List SV → List SB → Outs (SV × List SB)
 | [.str s], [] => if s.size ≤ 100000 then (match numI s.data.toList with
  | some v => some [(.tup [.int .i64 v, .bool true], [])]
  | none => none) else none
 | _, _ => none
theorem nInt_ok : Sound Tryz.prog 29 (fun args hp K => oAll (nInt args hp) (fun p => K p.1 p.2)) := by
 intro args hp K h
 refine s29 args hp K ?_
 unfold nInt at h
 unfold C29
 split at h
 ·split at h
  ·rename_i s hs
   refine ⟨by omega, fun n b hn h1 h2 => ?_⟩
   cases hv : numI s.data.toList with
   | none => rw [hv] at h; exact (oAll_none h).elim
   | some v =>
    rw [hv] at h
    have h := oAll_pair (K := K) h
    cases b
    ·have := h2 rfl; rw [intP_numI, hv] at this; cases this
    ·have e := h1 rfl
     rw [intP_numI, hv] at e; cases e
     exact h
  ·exact (oAll_none h).elim
 ·exact (oAll_none h).elim
theorem nInt_c : Callable Tryz.prog 29 := ⟨_, Tryz.func29, rfl, by decide⟩
def nUnhex : List SV → List SB → Outs (SV × List SB)
 | [.str s], [] => if s.size ≤ 100000 then (match unhexF s with
  | some l => some [(.tup [.str (bsOf l), .bool (keyOk (bsOf l))], [])]
  | none => none) else none
 | _, _ => none
theorem nUnhex_ok : Sound Tryz.prog 30 (fun args hp K => oAll (nUnhex args hp) (fun p => K p.1 p.2)) := by
 intro args hp K h
 refine s30 args hp K ?_
 unfold nUnhex at h
 unfold C30
 split at h
 ·split at h
  ·rename_i s hs
   cases hv : unhexF s with
   | none => rw [hv] at h; exact (oAll_none h).elim
   | some v =>
    rw [hv] at h
    have h := oAll_pair (K := K) h
    exact ⟨hs, fun e => (by rw [hv] at e; cases e), fun l e => (by rw [hv] at e; cases e; exact h)⟩
  ·exact (oAll_none h).elim
 ·exact (oAll_none h).elim
theorem nUnhex_c : Callable Tryz.prog 30 := callable_of_okF ok30
end Go.V
