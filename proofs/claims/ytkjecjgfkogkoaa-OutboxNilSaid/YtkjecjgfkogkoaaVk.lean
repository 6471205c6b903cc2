/- Slots that are set; symbolic values turned leaf by leaf; resources chosen, frozen, lent. -/
import Derived.Test.YtkjecjgfkogkoaaVj
namespace Go.V
set_option linter.unusedSimpArgs false
set_option linter.unnecessarySimpa false
set_option linter.unusedVariables false

def upF : List (Nat × SV) → Nat → SV → List (Nat × SV)
  | [], n, v => [(n, v)]
  | (k, x) :: r, n, v => bif k == n then (k, v) :: r else (k, x) :: upF r n v

def SS.put (s : SS) (d : Option Nat) (v : SV) : SS :=
  match d with
  | none => s
  | some d => ⟨upF s.fr d v, s.hp⟩

theorem lkF_up (n : Nat) (v : SV) (k : Nat) : ∀ fr, lkF (upF fr n v) k = if k = n then v else lkF fr k
  | [] => by
    simp only [upF, lkF]
    by_cases h : k = n
    · subst h; simp
    · have : (n == k) = false := by simp; exact fun e => h e.symm
      simp [this, h]
  | (k', x) :: r => by
    have ih := lkF_up n v k r
    simp only [upF]
    cases hk : k' == n with
    | true =>
      have e : k' = n := by simpa using hk
      subst e
      simp only [cond_true, lkF]
      by_cases h : k = k'
      · subst h; simp
      · have : (k' == k) = false := by simp; exact fun e => h e.symm
        simp [this, h]
    | false =>
      have e : k' ≠ n := by simpa using hk
      simp only [cond_false, lkF]
      by_cases h : k = k'
      · subst h; simp [e]
      · have : (k' == k) = false := by simp; exact fun e => h e.symm
        simp only [this, cond_false]
        exact ih

theorem Fr.put {E : En} {fr : List (Nat × SV)} {a : Act} (h : Fr E fr a) {d : Nat} (hd : d < a.tmps.size) {x : SV} {v : Value} (hx : den E x v) : Fr E (upF fr d x) (a.put (some d) v) := by
  intro k
  rw [lkF_up]
  simp only [Act.put]
  split
  · rename_i hk
    subst hk
    rw [Array.getD_eq_getD_getElem?, Array.getElem?_setIfInBounds_self_of_lt hd]
    exact hx
  · rename_i hk
    rw [Array.getD_eq_getD_getElem?, Array.getElem?_setIfInBounds_ne (fun e => hk e.symm), ← Array.getD_eq_getD_getElem?]
    exact h k

def keepF (l : List Nat) (fr : List (Nat × SV)) : List (Nat × SV) := l.map fun k => (k, lkF fr k)

theorem lkF_keep (fr : List (Nat × SV)) (k : Nat) : ∀ l : List Nat, lkF (keepF l fr) k = lkF fr k ∨ lkF (keepF l fr) k = .junk
  | [] => .inr rfl
  | n :: l => by
    simp only [keepF, List.map_cons, lkF]
    cases h : n == k with
    | true => have : n = k := by simpa using h
              subst this; exact .inl rfl
    | false => exact lkF_keep fr k l

theorem Fr.keep {E : En} {fr : List (Nat × SV)} {a : Act} (h : Fr E fr a) (l : List Nat) : Fr E (keepF l fr) a := by
  intro k
  rcases lkF_keep fr k l with e | e <;> rw [e]
  · exact h k
  · simp only [den]

/-! ### leaf by leaf -/
def SV.leaf : SV → Bool
  | .agg _ | .tup _ | .fn _ _ | .arr _ _ _ => false
  | _ => true

mutual
def SV.tr (f : SV → SV) : SV → SV
  | .agg l => .agg (SV.trL f l)
  | .tup l => .tup (SV.trL f l)
  | .fn g caps => .fn g (SV.trL f caps)
  | .arr n t xs => .arr n t xs
  | x => f x
def SV.trL (f : SV → SV) : List SV → List SV
  | [] => []
  | x :: r => x.tr f :: SV.trL f r
end

def SB.tr (f : SV → SV) : SB → SB
  | .struct cells => .struct (SV.trL f cells)
  | x => x

structure Tr (E E' : En) (f : SV → SV) : Prop where
  den : ∀ x v, x.leaf = true → den E x v → Go.V.den E' (f x) v
  arr : ∀ x, x.leaf = true → (f x).isArr = false

theorem SV.tr_leaf (f : SV → SV) (x : SV) (h : x.leaf = true) : x.tr f = f x := by cases x <;> simp [SV.leaf] at h <;> simp only [SV.tr]

theorem SV.isArr_tr {E E' : En} {f : SV → SV} (h : Tr E E' f) (x : SV) : (x.tr f).isArr = x.isArr := by
  by_cases hl : x.leaf = true
  · rw [SV.tr_leaf f x hl, h.arr x hl]
    cases x <;> simp [SV.leaf] at hl <;> rfl
  · cases x <;> simp [SV.leaf] at hl <;> simp [SV.tr, SV.isArr]

mutual
theorem den_tr {E E' : En} {f : SV → SV} (h : Tr E E' f) : ∀ (x : SV) (v : Value), den E x v → den E' (x.tr f) v
  | .agg l, v, hv => by
    simp only [den, SV.tr] at hv ⊢
    obtain ⟨cs, rfl, hc⟩ := hv
    exact ⟨cs, rfl, denC_tr h l _ hc⟩
  | .tup l, v, hv => by
    simp only [den, SV.tr] at hv ⊢
    obtain ⟨cs, rfl, hc⟩ := hv
    exact ⟨cs, rfl, denL_tr h l _ hc⟩
  | .fn g caps, v, hv => by
    simp only [den, SV.tr] at hv ⊢
    obtain ⟨cs, rfl, hc⟩ := hv
    exact ⟨cs, rfl, denL_tr h caps _ hc⟩
  | .arr _ _ _, v, hv => by simp only [den] at hv
  | .int k n, v, hv => by rw [SV.tr_leaf f _ rfl]; exact h.den _ v rfl hv
  | .bool b, v, hv => by rw [SV.tr_leaf f _ rfl]; exact h.den _ v rfl hv
  | .str s, v, hv => by rw [SV.tr_leaf f _ rfl]; exact h.den _ v rfl hv
  | .sl p eb t xs, v, hv => by rw [SV.tr_leaf f _ rfl]; exact h.den _ v rfl hv
  | .nilp, v, hv => by rw [SV.tr_leaf f _ rfl]; exact h.den _ v rfl hv
  | .nils, v, hv => by rw [SV.tr_leaf f _ rfl]; exact h.den _ v rfl hv
  | .nilm, v, hv => by rw [SV.tr_leaf f _ rfl]; exact h.den _ v rfl hv
  | .nilf, v, hv => by rw [SV.tr_leaf f _ rfl]; exact h.den _ v rfl hv
  | .nili, v, hv => by rw [SV.tr_leaf f _ rfl]; exact h.den _ v rfl hv
  | .ptr i off, v, hv => by rw [SV.tr_leaf f _ rfl]; exact h.den _ v rfl hv
  | .own i, v, hv => by rw [SV.tr_leaf f _ rfl]; exact h.den _ v rfl hv
  | .vw i lo hi sz, v, hv => by rw [SV.tr_leaf f _ rfl]; exact h.den _ v rfl hv
  | .mp i, v, hv => by rw [SV.tr_leaf f _ rfl]; exact h.den _ v rfl hv
  | .el i n sz off, v, hv => by rw [SV.tr_leaf f _ rfl]; exact h.den _ v rfl hv
  | .rel p eb t xs n off, v, hv => by rw [SV.tr_leaf f _ rfl]; exact h.den _ v rfl hv
  | .ptrA i off n sz, v, hv => by rw [SV.tr_leaf f _ rfl]; exact h.den _ v rfl hv
  | .junk1, v, hv => by rw [SV.tr_leaf f _ rfl]; exact h.den _ v rfl hv
  | .junk, v, hv => by rw [SV.tr_leaf f _ rfl]; exact h.den _ v rfl hv
theorem denC_tr {E E' : En} {f : SV → SV} (h : Tr E E' f) : ∀ (l : List SV) (cs : List Value), denC E l cs → denC E' (SV.trL f l) cs
  | [], cs, hc => by simp only [denC, SV.trL] at hc ⊢; exact hc
  | x :: r, cs, hc => by
    have ih := denC_tr h r
    have ihx := den_tr h x
    by_cases ha : x.isArr = true
    · cases x <;> simp only [SV.isArr, Bool.false_eq_true] at ha
      simp only [denC, SV.trL, SV.tr] at hc ⊢
      obtain ⟨c1, c2, h1, h2, h3, h4, h5⟩ := hc
      exact ⟨c1, c2, h1, h2, h3, rdL_mono (fun x c hx => rd_flat _ h3 x c hx) _ _ h4, ih c2 h5⟩
    · have ha' : x.isArr = false := by simpa using ha
      rw [denC_cons ha'] at hc
      obtain ⟨v, c2, h1, h2, h3⟩ := hc
      simp only [SV.trL]
      rw [denC_cons (by rw [SV.isArr_tr h]; exact ha')]
      exact ⟨v, c2, h1, ihx v h2, ih c2 h3⟩
theorem denL_tr {E E' : En} {f : SV → SV} (h : Tr E E' f) : ∀ (l : List SV) (cs : List Value), denL E l cs → denL E' (SV.trL f l) cs
  | [], cs, hc => by simp only [denL, SV.trL] at hc ⊢; exact hc
  | x :: r, cs, hc => by
    simp only [denL, SV.trL] at hc ⊢
    obtain ⟨v, r', rfl, h1, h2⟩ := hc
    exact ⟨v, r', rfl, den_tr h x v h1, denL_tr h r r' h2⟩
end

def frTr (f : SV → SV) (fr : List (Nat × SV)) : List (Nat × SV) := fr.map fun x => (x.1, x.2.tr f)

theorem lkF_tr (f : SV → SV) (hj : f .junk = .junk) (k : Nat) : ∀ fr, lkF (frTr f fr) k = (lkF fr k).tr f
  | [] => by simp [frTr, lkF, SV.tr, hj]
  | (k', x) :: r => by
    have ih := lkF_tr f hj k r
    simp only [frTr, List.map_cons, lkF] at ih ⊢
    cases k' == k
    · simpa using ih
    · simp

theorem Fr.tr {E E' : En} {f : SV → SV} (h : Tr E E' f) (hj : f .junk = .junk) {fr : List (Nat × SV)} {a : Act} (hf : Fr E fr a) : Fr E' (frTr f fr) a := by
  intro k
  rw [lkF_tr f hj]
  exact den_tr h _ _ (hf k)

theorem SB.live_tr (f : SV → SV) (sb : SB) : (sb.tr f).live = sb.live := by cases sb <;> rfl

/-- A resource under a turn of the leaves, the world as it was. -/
theorem SBok.tr {E E' : En} {f : SV → SV} (h : Tr E E' f) (hw : E'.w = E.w) (hF : ∀ b, E.Fz b → E'.Fz b) {rv : RV} {sb : SB} (ho : SBok E rv sb) : SBok E' rv (sb.tr f) := by
  cases sb with
  | struct cells =>
    obtain ⟨b, cur, T, fr, h1, h2, h3, h4⟩ := ho
    exact ⟨b, cur, T, fr, h1, hw ▸ h2, h3, denC_tr h cells _ h4⟩
  | row mv eb t xs =>
    exact ownv_mono (fun b _ => by rw [hw]) (fun x c hx => rd_mono hF (fun b hb => by rw [hw]) t x c hx) ho
  | map va kt vt m =>
    obtain ⟨b, es, clk, h1, h2, h3⟩ := ho
    exact ⟨b, es, clk, h1, hw ▸ h2, h3.mono hF (fun b hb => by rw [hw])⟩
  | gone => trivial

/-! ### what is borrowed is forgotten -/
def unboF : SV → SV
  | .sl false _ _ _ => .junk1
  | .rel false _ _ _ _ _ => .junk1
  | x => x

theorem slv_one {α : Type} {w : World} {F : Nat → Prop} {R : α → List Value → Prop} {eb sz : Nat} {xs : List α} {v : Value} (h : slv w F R eb sz xs v) : v.oneCell' = true := by
  rcases h with ⟨_, _, _, rfl, _⟩ | ⟨_, _, _, _, _, _, _, rfl, _⟩ <;> rfl

theorem Tr.unbo (E : En) (B' : Nat → Prop) : Tr E { E with B := B' } unboF where
  arr x hx := by
    cases x <;> first | (simp [SV.leaf] at hx; done) | rfl | skip
    all_goals simp only [unboF]
    all_goals split <;> first | rfl | simp_all
  den x v hx hv := by
    have eF : ∀ b, En.F { E with B := B' } true b ↔ E.F true b := fun b => by simp [En.F]
    cases x with
    | sl p eb t xs =>
      cases p with
      | false => simp only [unboF, Go.V.den] at hv ⊢; exact slv_one hv
      | true =>
        simp only [unboF, Go.V.den] at hv ⊢
        exact slv_mono (fun b hb => (eF b).2 hb) (fun _ _ => rfl) (fun x c h => rd_mono (fun b hb => (eF b).2 hb) (fun _ _ => rfl) t x c h) hv
    | rel p eb t xs n off =>
      cases p with
      | false => simp only [unboF, Go.V.den] at hv ⊢; obtain ⟨_, _, _, _, _, _, _, rfl⟩ := hv; rfl
      | true =>
        simp only [unboF, Go.V.den] at hv ⊢
        obtain ⟨vs, b, o, l, c, h1, h2, h3⟩ := hv
        exact ⟨vs, b, o, l, c, slv_mono (fun b hb => (eF b).2 hb) (fun _ _ => rfl) (fun x c h => rd_mono (fun b hb => (eF b).2 hb) (fun _ _ => rfl) t x c h) h1, h2, h3⟩
    | agg _ => simp [SV.leaf] at hx
    | tup _ => simp [SV.leaf] at hx
    | fn _ _ => simp [SV.leaf] at hx
    | arr _ _ _ => simp [SV.leaf] at hx
    | _ => simp only [unboF, Go.V.den] at hv ⊢ <;> exact hv

/-! ### a row is frozen -/
def frzF (i eb : Nat) (t : Ty) (xs : List t.den) : SV → SV
  | .own j => if j = i then .sl true eb t xs else .own j
  | .vw j lo hi sz => if j = i then (if sz = t.size then .sl true eb t ((xs.drop lo).take (hi - lo)) else .junk1) else .vw j lo hi sz
  | .el j n sz off => if j = i then .junk1 else .el j n sz off
  | x => x

theorem frz_sound {hp : List SB} {E : En} (h : HS hp E) {i eb : Nat} {mv : Bool} {t : Ty} {xs : List t.den} (hi : hp[i]? = some (.row mv eb t xs)) :
    HS ((hp.map (SB.tr (frzF i eb t xs))).set i .gone) { E with Fz := fun b => E.Fz b ∨ (E.ρ i).blk = some b } ∧
    Tr E { E with Fz := fun b => E.Fz b ∨ (E.ρ i).blk = some b } (frzF i eb t xs) ∧
    Ev hp E ((hp.map (SB.tr (frzF i eb t xs))).set i .gone) { E with Fz := fun b => E.Fz b ∨ (E.ρ i).blk = some b } := by
  have hlt : i < hp.length := (List.getElem?_eq_some_iff.1 hi).1
  have up : ∀ p b, E.F p b → En.F { E with Fz := fun b => E.Fz b ∨ (E.ρ i).blk = some b } p b := fun p b hb => hb.elim (fun h => .inl (.inl h)) .inr
  have hrow : slv E.w (En.F { E with Fz := fun b => E.Fz b ∨ (E.ρ i).blk = some b } true) (rd E.w (En.F { E with Fz := fun b => E.Fz b ∨ (E.ρ i).blk = some b } true) t) eb t.size xs (E.ρ i).val := by
    rcases h.ok i _ hi with ⟨⟨ad, h1⟩, h2, rfl⟩ | ⟨b, off, cap, cur, T, fr, cs, h1, h2, h3, h4, h5, h6, h7, h8, h9, h10⟩
    · exact .inl ⟨rfl, ad, 0, h1, by simp [maxLen], by simp⟩
    · exact .inr ⟨b, off, cap, cur, T, fr, cs, h1, .inl (.inr h2), h3, h5, h6, h8, h9, rdL_mono (fun x c hx => rd_mono (fun b hb => .inl (.inl hb)) (fun _ _ => rfl) t x c hx) _ _ h10⟩
  have htr : Tr E { E with Fz := fun b => E.Fz b ∨ (E.ρ i).blk = some b } (frzF i eb t xs) := by
    refine ⟨fun x v hx hv => ?_, fun x hx => ?_⟩
    · cases x with
      | own j =>
        simp only [frzF]
        simp only [den] at hv
        split
        · rename_i hj
          subst hj
          simp only [den]
          rw [hv.2.1]; exact hrow
        · simp only [den]; exact hv
      | vw j lo hi' sz =>
        simp only [frzF]
        simp only [den] at hv
        split
        · rename_i hj
          subst hj
          split
          · rename_i hsz
            simp only [den]
            rcases hv.2.2 with ⟨rfl, rfl, ad, _, rfl⟩ | ⟨b, o, l, c, h1, h2, ad, rfl, had⟩
            · exact .inl ⟨by simp, ad, 0, rfl, by simp [maxLen], by simp⟩
            · rw [h1] at hrow
              exact slr_part (rd_length t) hrow hv.2.1 h2 (by rw [← hsz]; exact had)
          · simp only [den]
            rcases hv.2.2 with ⟨_, _, _, _, rfl⟩ | ⟨b, o, l, c, _, _, ad, rfl, _⟩ <;> rfl
        · simp only [den]; exact hv
      | el j n sz off =>
        simp only [frzF]
        simp only [den] at hv
        split
        · simp only [den]; obtain ⟨_, _, _, _, _, _, rfl⟩ := hv; rfl
        · simp only [den]; exact hv
      | sl p eb t xs =>
        simp only [frzF, den] at hv ⊢
        exact slv_mono (up p) (fun _ _ => rfl) (fun x c h => rd_mono (up p) (fun _ _ => rfl) t x c h) hv
      | rel p eb t xs n off =>
        simp only [frzF, den] at hv ⊢
        obtain ⟨vs, b, o, l, c, h1, h2, h3⟩ := hv
        exact ⟨vs, b, o, l, c, slv_mono (up p) (fun _ _ => rfl) (fun x c h => rd_mono (up p) (fun _ _ => rfl) t x c h) h1, h2, h3⟩
      | agg _ => simp [SV.leaf] at hx
      | tup _ => simp [SV.leaf] at hx
      | fn _ _ => simp [SV.leaf] at hx
      | arr _ _ _ => simp [SV.leaf] at hx
      | _ => simp only [frzF, den] at hv ⊢ <;> exact hv
    · cases x <;> first | (simp [SV.leaf] at hx; done) | rfl | skip
      all_goals simp only [frzF]
      all_goals (repeat' split) <;> rfl
  have hget : ∀ j s', ((hp.map (SB.tr (frzF i eb t xs))).set i .gone)[j]? = some s' → (j = i ∧ s' = .gone) ∨ (j ≠ i ∧ ∃ s, hp[j]? = some s ∧ s' = s.tr (frzF i eb t xs)) := by
    intro j s' hj
    rw [List.getElem?_set] at hj
    split at hj
    · rename_i hij
      subst hij
      rw [if_pos (by simpa using hlt)] at hj
      cases hj
      exact .inl ⟨rfl, rfl⟩
    · rename_i hij
      rw [List.getElem?_map] at hj
      cases hs : hp[j]? with
      | none => rw [hs] at hj; cases hj
      | some s => rw [hs] at hj; cases hj; exact .inr ⟨fun e => hij e.symm, s, rfl, rfl⟩
  have hlv : ∀ b, Lv ((hp.map (SB.tr (frzF i eb t xs))).set i .gone) { E with Fz := fun b => E.Fz b ∨ (E.ρ i).blk = some b } b → Lv hp E b ∧ (E.ρ i).blk ≠ some b := by
    rintro b ⟨j, sj, hj, hjl, hjb⟩
    rcases hget j sj hj with ⟨rfl, rfl⟩ | ⟨hji, s, hs, rfl⟩
    · simp [SB.live] at hjl
    · rw [SB.live_tr] at hjl
      exact ⟨⟨j, s, hs, hjl, hjb⟩, fun hb => hji (h.dist _ _ _ _ b hs hi hjl rfl hjb hb)⟩
  refine ⟨⟨by simp [h.n], ?_, ?_, ?_, ?_⟩, htr, ⟨rfl, rfl, rfl, Nat.le_refl _, fun _ _ _ => rfl, fun b hb => .inl (hlv b hb).1, fun b hb => .inl hb, ?_, rfl⟩⟩
  · intro j s' hj
    rcases hget j s' hj with ⟨rfl, rfl⟩ | ⟨hji, s, hs, rfl⟩
    · trivial
    · exact SBok.tr htr rfl (fun b hb => .inl hb) (h.ok j s hs)
  · intro j k sj sk b hj hk hjl hkl hjb hkb
    rcases hget j sj hj with ⟨rfl, rfl⟩ | ⟨hji, s, hs, rfl⟩
    · simp [SB.live] at hjl
    · rcases hget k sk hk with ⟨rfl, rfl⟩ | ⟨hki, s2, hs2, rfl⟩
      · simp [SB.live] at hkl
      · rw [SB.live_tr] at hjl hkl
        exact h.dist _ _ _ _ b hs hs2 hjl hkl hjb hkb
  · intro b hb
    obtain ⟨h1, h2⟩ := hlv b hb
    obtain ⟨h3, h4, h5⟩ := h.own b h1
    exact ⟨h3, fun hx => hx.elim h4 h2, h5⟩
  · rintro b ((hb | hb) | hb)
    · exact h.old b (.inl hb)
    · exact (h.own b ⟨i, _, hi, rfl, hb⟩).1
    · exact h.old b (.inr hb)
  · rintro b (hb | hb)
    · exact .inl hb
    · exact .inr (.inl ⟨i, _, hi, rfl, hb⟩)

/-! ### some of the resources, numbered anew -/
def posOf : List Nat → Nat → Option Nat
  | [], _ => none
  | x :: r, i => bif x == i then some 0 else (posOf r i).map (· + 1)

theorem posOf_some : ∀ (l : List Nat) (i j : Nat), posOf l i = some j → l[j]? = some i
  | [], i, j, h => by simp [posOf] at h
  | x :: r, i, j, h => by
    simp only [posOf] at h
    cases hx : x == i with
    | true => rw [hx] at h; simp at h; subst h; simpa using hx
    | false =>
      rw [hx] at h
      simp only [cond_false] at h
      cases hp : posOf r i with
      | none => rw [hp] at h; cases h
      | some k =>
        rw [hp] at h
        simp at h
        subst h
        simpa using posOf_some r i k hp

def selHp (idx : List Nat) (f : Nat → Option Nat) (hp : List SB) : List SB := idx.map fun i => (hp.getD i .gone).ren f

theorem sel_sound {hp : List SB} {E : En} (h : HS hp E) {idx : List Nat} (hnd : idx.Nodup) (hlt : ∀ i ∈ idx, i < hp.length) :
    HS (selHp idx (posOf idx) hp) { E with N := idx.length, ρ := fun j => E.ρ (idx.getD j 0) } ∧ Ren E { E with N := idx.length, ρ := fun j => E.ρ (idx.getD j 0) } (posOf idx) := by
  have hren : Ren E { E with N := idx.length, ρ := fun j => E.ρ (idx.getD j 0) } (posOf idx) := by
    refine ⟨fun i j hi hf => ?_, fun _ hb => hb, fun _ hb => .inl hb, fun _ _ => rfl⟩
    have := posOf_some idx i j hf
    obtain ⟨h1, h2⟩ := List.getElem?_eq_some_iff.1 this
    exact ⟨h1, by simp [List.getD_eq_getElem?_getD, this]⟩
  have hget : ∀ j s', (selHp idx (posOf idx) hp)[j]? = some s' → ∃ i s, idx[j]? = some i ∧ hp[i]? = some s ∧ s' = s.ren (posOf idx) ∧ E.ρ (idx.getD j 0) = E.ρ i := by
    intro j s' hj
    unfold selHp at hj
    rw [List.getElem?_map] at hj
    cases hi : idx[j]? with
    | none => rw [hi] at hj; cases hj
    | some i =>
      rw [hi] at hj
      cases hj
      have := hlt i (List.mem_of_getElem? hi)
      exact ⟨i, hp[i], rfl, List.getElem?_eq_getElem this, by simp [List.getD_eq_getElem?_getD, List.getElem?_eq_getElem this], by simp [List.getD_eq_getElem?_getD, hi]⟩
  have hlv : ∀ b, Lv (selHp idx (posOf idx) hp) { E with N := idx.length, ρ := fun j => E.ρ (idx.getD j 0) } b → Lv hp E b := by
    rintro b ⟨j, sj, hj, hjl, hjb⟩
    obtain ⟨i, s, h1, h2, rfl, h4⟩ := hget j sj hj
    rw [SB.live_ren] at hjl
    simp only at hjb
    rw [h4] at hjb
    exact ⟨i, s, h2, hjl, hjb⟩
  refine ⟨⟨by simp [selHp], ?_, ?_, fun b hb => h.own b (hlv b hb), h.old⟩, hren⟩
  · intro j s' hj
    obtain ⟨i, s, h1, h2, rfl, h4⟩ := hget j s' hj
    show SBok _ (E.ρ (idx.getD j 0)) _
    rw [h4]
    exact SBok.ren hren (fun _ _ _ => rfl) (h.ok i s h2)
  · intro j k sj sk b hj hk hjl hkl hjb hkb
    obtain ⟨i, s, h1, h2, rfl, h4⟩ := hget j sj hj
    obtain ⟨i', s2, h1', h2', rfl, h4'⟩ := hget k sk hk
    rw [SB.live_ren] at hjl hkl
    simp only at hjb hkb
    rw [h4] at hjb; rw [h4'] at hkb
    have := h.dist _ _ _ _ b h2 h2' hjl hkl hjb hkb
    subst this
    obtain ⟨e1, e2⟩ := List.getElem?_eq_some_iff.1 h1
    obtain ⟨e3, e4⟩ := List.getElem?_eq_some_iff.1 h1'
    exact (List.getElem_inj hnd).1 (e2.trans e4.symm)

end Go.V
