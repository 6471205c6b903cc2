/- Contracts, and a call by one. -/
import Derived.Test.YtkjecjgfkogkoaaVk
namespace Go.V
set_option linter.unusedSimpArgs false
set_option linter.unnecessarySimpa false
set_option linter.unusedVariables false

/-- What a call comes to: of its arguments, the resources that these reach (numbered in the order in which they are met), and what is to hold of the result and of these resources then (new ones behind). -/
abbrev Contract := List SV → List SB → (SV → List SB → Prop) → Prop

mutual
def SV.refs : SV → List Nat
  | .ptr i _ => [i]
  | .own i => [i]
  | .vw i _ _ _ => [i]
  | .mp i => [i]
  | .el i _ _ _ => [i]
  | .ptrA i _ _ _ => [i]
  | .agg l => SV.refsL l
  | .tup l => SV.refsL l
  | .fn _ l => SV.refsL l
  | _ => []
def SV.refsL : List SV → List Nat
  | [] => []
  | x :: r => x.refs ++ SV.refsL r
end

def SB.refs : SB → List Nat
  | .struct cells => SV.refsL cells
  | _ => []

/-- The resources that some lead to, in the order in which they are met. -/
def reach (hp : List SB) : Nat → List Nat → List Nat → List Nat
  | 0, _, acc => acc
  | _ + 1, [], acc => acc
  | n + 1, i :: todo, acc => if acc.contains i then reach hp n todo acc else match hp[i]? with
    | none => reach hp n todo acc
    | some b => if b.live then reach hp n (b.refs ++ todo) (acc ++ [i]) else reach hp n todo acc

theorem reach_ok (hp : List SB) : ∀ (n : Nat) (todo acc : List Nat), acc.Nodup → (∀ i ∈ acc, i < hp.length) → (reach hp n todo acc).Nodup ∧ (∀ i ∈ reach hp n todo acc, i < hp.length)
  | 0, _, acc, h1, h2 => ⟨h1, h2⟩
  | _ + 1, [], acc, h1, h2 => ⟨h1, h2⟩
  | n + 1, i :: todo, acc, h1, h2 => by
    simp only [reach]
    split
    · exact reach_ok hp n todo acc h1 h2
    · rename_i hc
      split
      · exact reach_ok hp n todo acc h1 h2
      · rename_i b hb
        split
        · refine reach_ok hp n _ _ ?_ ?_
          · rw [List.nodup_append]
            refine ⟨h1, by simp, fun x hx y hy => ?_⟩
            simp at hy
            subst hy
            intro e
            subst e
            exact hc (by simpa using hx)
          · intro x hx
            rcases List.mem_append.1 hx with hx | hx
            · exact h2 x hx
            · simp at hx; subst hx; exact (List.getElem?_eq_some_iff.1 hb).1
        · exact reach_ok hp n todo acc h1 h2

/-- How an argument is handed over: as it is; lent (to be read alone). -/
def lend (hp : List SB) : List (Option (Nat × Ty)) → List SV → Option (List SV × List Nat)
  | [], [] => some ([], [])
  | none :: ms, x :: xs => match lend hp ms xs with
    | some (ys, l) => some (x :: ys, l)
    | none => none
  | some (eb, t) :: ms, x :: xs => match lend hp ms xs with
    | some (ys, l) => match x with
      | .nils => some (.sl false eb t [] :: ys, l)
      | .sl _ eb t xs => some (.sl false eb t xs :: ys, l)
      | x => match cont hp x with
        | some C => some (.sl false C.eb C.t C.xs :: ys, x.refs ++ l)
        | none => none
    | none => none
  | _, _ => none

def SB.reset : SB → SB
  | .row _ eb t xs => .row false eb t xs
  | x => x

/-- Back from the callee's numbers. -/
def back (idx : List Nat) (N : Nat) (j : Nat) : Option Nat := if j < idx.length then idx[j]? else some (N + (j - idx.length))

def SB.stays : SB → Bool
  | .struct _ => true
  | .map _ _ _ _ => true
  | .row mv _ _ _ => !mv
  | .gone => false

/-- The resources that lie elsewhere now, or are none any more. -/
def movedL : List Nat → List SB → List Nat
  | i :: idx, b :: hp => if b.stays then movedL idx hp else i :: movedL idx hp
  | _, _ => []

def but2 (M : List Nat) : Nat → Option Nat := fun j => if M.contains j then none else some j

def mvOr (b c : SB) : SB :=
  match c with
  | .row mv eb t xs => .row (mv || !b.stays) eb t xs
  | c => bif b.stays then c else .gone

/-- The caller's resources behind the call. -/
def plugL (idx : List Nat) (hp' : List SB) (g f : Nat → Option Nat) : List SB → Nat → List SB
  | [], _ => []
  | b :: r, i => (match posOf idx i with
    | some j => mvOr b ((hp'.getD j .gone).ren g)
    | none => b.ren f) :: plugL idx hp' g f r (i + 1)

def plugHp (idx : List Nat) (hp hp' : List SB) : List SB :=
  plugL idx hp' (back idx hp.length) (but2 (movedL idx hp')) hp 0 ++ (hp'.drop idx.length).map (SB.ren (back idx hp.length))

def unboIf (lent : List Nat) (x : SV) : SV := match lent with
  | [] => x
  | _ => x.tr unboF
def unboHp (lent : List Nat) (hp : List SB) : List SB := match lent with
  | [] => hp
  | _ => hp.map (SB.tr unboF)

def plug (idx lent : List Nat) (s : SS) (r : SV) (hp' : List SB) (K : SV → SS → Prop) : Prop :=
  K ((unboIf lent r).ren (back idx s.hp.length)) ⟨frRen (but2 (movedL idx hp')) s.fr, plugHp idx s.hp (unboHp lent hp')⟩

def callC2 (C : Contract) (idx lent : List Nat) (args : List SV) (s : SS) (K : SV → SS → Prop) : Prop :=
  (lent.all fun i => !idx.contains i) = true ∧ C (SV.renL (posOf idx) args) ((selHp idx (posOf idx) s.hp).map SB.reset) (fun r hp' => plug idx lent s r hp' K)

def callC1 (C : Contract) (al : Option (List SV × List Nat)) (s : SS) (K : SV → SS → Prop) : Prop :=
  match al with
  | none => False
  | some (args, lent) => callC2 C (reach s.hp 400 (SV.refsL args) []) lent args s K

/-- The call meets the contract. -/
def Sound (P : Program) (f : FuncId) (C : Contract) : Prop :=
  ∀ (args : List SV) (hp : List SB) (K : SV → List SB → Prop), C args hp K → ∀ (E : En) (vs : List Value), HS hp E → denL E args vs →
    Calls P f vs.toArray E.w fun e w' => ∃ r hp' E' v, e = .returned v ∧ E'.w = w' ∧ K r hp' ∧ HS hp' E' ∧ den E' r v ∧ Ev hp E hp' E' ∧ Id hp.length E.ρ hp' E'.ρ

theorem back_lt {idx : List Nat} {N j i : Nat} (h : back idx N j = some i) (hj : j < idx.length) : idx[j]? = some i := by
  unfold back at h; rwa [if_pos hj] at h
theorem back_ge {idx : List Nat} {N j i : Nat} (h : back idx N j = some i) (hj : ¬ j < idx.length) : i = N + (j - idx.length) := by
  unfold back at h; rw [if_neg hj] at h; cases h; rfl

theorem posOf_nodup : ∀ (l : List Nat) (j i : Nat), l.Nodup → l[j]? = some i → posOf l i = some j
  | [], j, i, _, h => by simp at h
  | x :: r, 0, i, hn, h => by simp at h; subst h; simp [posOf]
  | x :: r, j + 1, i, hn, h => by
    rw [List.nodup_cons] at hn
    have h' : r[j]? = some i := by simpa using h
    have : (x == i) = false := by
      simp; intro e; subst e; exact hn.1 (List.mem_of_getElem? h')
    simp [posOf, this, posOf_nodup r j i hn.2 h']

theorem movedL_spec : ∀ (idx : List Nat) (hp : List SB) (j i : Nat) (b : SB), idx[j]? = some i → hp[j]? = some b → ¬ (movedL idx hp).contains i = true → b.stays = true
  | [], _, j, i, b, h, _, _ => by simp at h
  | _ :: _, [], j, i, b, _, h, _ => by simp at h
  | x :: idx, y :: hp, j, i, b, h1, h2, h3 => by
    simp only [movedL] at h3
    cases j with
    | zero =>
      simp at h1 h2
      subst h1; subst h2
      split at h3
      · assumption
      · simp at h3
    | succ j =>
      refine movedL_spec idx hp j i b (by simpa using h1) (by simpa using h2) (fun hc => h3 ?_)
      split
      · exact hc
      · simp only [List.contains_cons, Bool.or_eq_true]; exact .inr hc

theorem plugL_get (idx : List Nat) (hp' : List SB) (g f : Nat → Option Nat) : ∀ (hp : List SB) (k i : Nat) (b : SB), hp[i]? = some b →
    (plugL idx hp' g f hp k)[i]? = some (match posOf idx (k + i) with | some j => mvOr b ((hp'.getD j .gone).ren g) | none => b.ren f)
  | [], k, i, b, h => by simp at h
  | c :: hp, k, i, b, h => by
    cases i with
    | zero => simp at h; subst h; simp [plugL]
    | succ i =>
      have := plugL_get idx hp' g f hp (k + 1) i b (by simpa using h)
      simp only [plugL, List.getElem?_cons_succ]
      rw [this]
      congr 3
      omega

theorem plugL_length (idx : List Nat) (hp' : List SB) (g f : Nat → Option Nat) : ∀ (hp : List SB) (k : Nat), (plugL idx hp' g f hp k).length = hp.length
  | [], k => rfl
  | c :: hp, k => by simp [plugL, plugL_length idx hp' g f hp (k + 1)]

theorem mvOr_live {b c : SB} (h : (mvOr b c).live = true) : c.live = true := by
  cases c <;> simp only [mvOr, SB.live] at h ⊢
  revert h; cases b.stays <;> simp [SB.live]
theorem mvOr_ok {E : En} {rv : RV} {b c : SB} (h : SBok E rv c) : SBok E rv (mvOr b c) := by
  cases c <;> simp only [mvOr] <;> first | exact h | (cases b.stays <;> first | exact h | trivial)
theorem SB.stays_ren (f : Nat → Option Nat) (b : SB) : (b.ren f).stays = b.stays := by cases b <;> rfl
theorem mvOr_stays {b c : SB} (h : (mvOr b c).stays = true) : c.stays = true ∧ b.stays = true := by
  cases hb : b.stays <;> cases c <;> simp_all [mvOr, SB.stays]

theorem idok_of_stays {b : SB} {rv0 rv : RV} (h : b.stays = true → rv = rv0) : idok b rv0 rv := by
  cases b with
  | struct _ => exact h rfl
  | map _ _ _ _ => exact h rfl
  | row mv _ _ _ => cases mv with
    | false => exact h rfl
    | true => trivial
  | gone => trivial
theorem stays_of_idok {b : SB} {rv0 rv : RV} (h : idok b rv0 rv) (hs : b.stays = true) : rv = rv0 := by
  cases b with
  | struct _ => exact h
  | map _ _ _ _ => exact h
  | row mv _ _ _ => cases mv with
    | false => exact h
    | true => simp [SB.stays] at hs
  | gone => simp [SB.stays] at hs

theorem Id.refl (hp : List SB) (ρ : Nat → RV) : Id hp.length ρ hp ρ :=
  ⟨Nat.le_refl _, fun i sb _ _ => idok_of_stays fun _ => rfl⟩

theorem SBok.reset {E : En} {rv : RV} {b : SB} (h : SBok E rv b) : SBok E rv b.reset := by cases b <;> exact h
theorem SB.live_reset (b : SB) : b.reset.live = b.live := by cases b <;> rfl

theorem HS.reset {hp : List SB} {E : En} (h : HS hp E) : HS (hp.map SB.reset) E := by
  have hget : ∀ (j : Nat) s', (hp.map SB.reset)[j]? = some s' → ∃ s, hp[j]? = some s ∧ s' = s.reset := by
    intro j s' hj
    rw [List.getElem?_map] at hj
    cases hs : hp[j]? with
    | none => rw [hs] at hj; cases hj
    | some s => rw [hs] at hj; cases hj; exact ⟨s, rfl, rfl⟩
  refine ⟨by simp [h.n], ?_, ?_, ?_, h.old⟩
  · intro j s' hj
    obtain ⟨s, hs, rfl⟩ := hget j s' hj
    exact (h.ok j s hs).reset
  · intro j k sj sk b hj hk hjl hkl hjb hkb
    obtain ⟨s, hs, rfl⟩ := hget j sj hj
    obtain ⟨s2, hs2, rfl⟩ := hget k sk hk
    rw [SB.live_reset] at hjl hkl
    exact h.dist _ _ _ _ b hs hs2 hjl hkl hjb hkb
  · rintro b ⟨j, sj, hj, hjl, hjb⟩
    obtain ⟨s, hs, rfl⟩ := hget j sj hj
    rw [SB.live_reset] at hjl
    exact h.own b ⟨j, s, hs, hjl, hjb⟩

theorem Lv.reset {hp : List SB} {E : En} {b : Nat} (h : Lv (hp.map SB.reset) E b) : Lv hp E b := by
  obtain ⟨j, sj, hj, hjl, hjb⟩ := h
  rw [List.getElem?_map] at hj
  cases hs : hp[j]? with
  | none => rw [hs] at hj; cases hj
  | some s =>
    rw [hs] at hj
    cases hj
    rw [SB.live_reset] at hjl
    exact ⟨j, s, hs, hjl, hjb⟩

/-- More may be borrowed. -/
theorem HS.borrow {hp : List SB} {E : En} (h : HS hp E) (B' : Nat → Prop) (h1 : ∀ b, B' b → b < E.w.heap.size) (h2 : ∀ b, Lv hp E b → ¬ B' b) (h3 : ∀ b, E.B b → B' b) :
    HS hp { E with B := B' } ∧ Ren E { E with B := B' } some := by
  have hren : Ren E { E with B := B' } some := ⟨fun a b ha hab => by cases hab; exact ⟨ha, rfl⟩, fun _ hb => hb, fun b hb => .inl (h3 b hb), fun _ _ => rfl⟩
  refine ⟨⟨h.n, fun j s' hs => ?_, h.dist, fun b hb => ?_, fun b hb => hb.elim (fun h' => h.old b (.inl h')) (h1 b)⟩, hren⟩
  · have := SBok.ren hren (rv := E.ρ j) (sb := s') (fun _ _ _ => rfl) (h.ok j s' hs)
    rwa [SB.ren_some] at this
  · exact ⟨(h.own b hb).1, (h.own b hb).2.1, h2 b hb⟩

/-- WHAT A CALL LEAVES, IN THE CALLER's NUMBERS. -/
theorem plug_sound {hp : List SB} {E : En} (h : HS hp E) {idx : List Nat} (hnd : idx.Nodup) (hlt : ∀ i ∈ idx, i < hp.length) {hp' : List SB} {E' : En} (h' : HS hp' E')
    (hB : E'.B = E.B)
    (hev : Ev ((selHp idx (posOf idx) hp).map SB.reset) { E with N := idx.length, ρ := fun j => E.ρ (idx.getD j 0) } hp' E')
    (hid : Id idx.length (fun j => E.ρ (idx.getD j 0)) hp' E'.ρ) {n0 : Nat} {ρ0 : Nat → RV} (hid0 : Id n0 ρ0 hp E.ρ) :
    ∃ E'', E''.w = E'.w ∧ HS (plugHp idx hp hp') E'' ∧ Ren E' E'' (back idx hp.length) ∧ Ren E E'' (but2 (movedL idx hp')) ∧ Ev hp E (plugHp idx hp hp') E'' ∧ Id n0 ρ0 (plugHp idx hp hp') E''.ρ := by
  have hN := h.n
  have hN' := h'.n
  -- the callee's blocks are those of idx
  have hsel : ∀ b, Lv ((selHp idx (posOf idx) hp).map SB.reset) { E with N := idx.length, ρ := fun j => E.ρ (idx.getD j 0) } b → ∃ (j i : Nat) (s : SB), idx[j]? = some i ∧ hp[i]? = some s ∧ s.live = true ∧ (E.ρ i).blk = some b := by
    intro b hb
    obtain ⟨j, sj, hj, hjl, hjb⟩ := hb.reset
    unfold selHp at hj
    rw [List.getElem?_map] at hj
    cases hi : idx[j]? with
    | none => rw [hi] at hj; cases hj
    | some i =>
      rw [hi] at hj
      cases hj
      rw [SB.live_ren] at hjl
      have := hlt i (List.mem_of_getElem? hi)
      simp only [List.getD_eq_getElem?_getD, hi, Option.getD_some] at hjb
      rw [List.getD_eq_getElem?_getD, List.getElem?_eq_getElem this, Option.getD_some] at hjl
      exact ⟨j, i, _, hi, List.getElem?_eq_getElem this, hjl, hjb⟩
  have hLv : ∀ b, Lv ((selHp idx (posOf idx) hp).map SB.reset) { E with N := idx.length, ρ := fun j => E.ρ (idx.getD j 0) } b → Lv hp E b := by
    intro b hb
    obtain ⟨j, i, s, _, h2, h3, h4⟩ := hsel b hb
    exact ⟨i, s, h2, h3, h4⟩
  have hout : ∀ (i : Nat) (s : SB) b, hp[i]? = some s → s.live = true → (E.ρ i).blk = some b → posOf idx i = none → ¬ Lv ((selHp idx (posOf idx) hp).map SB.reset) { E with N := idx.length, ρ := fun j => E.ρ (idx.getD j 0) } b := by
    intro i s b hs hl hb hp0 hv
    obtain ⟨j, i', s', h1, h2, h3, h4⟩ := hsel b hv
    have := h.dist _ _ _ _ b hs h2 hl h3 hb h4
    subst this
    rw [posOf_nodup idx j i hnd h1] at hp0
    cases hp0
  let ρ'' : Nat → RV := fun i => if i < hp.length then (match posOf idx i with | some j => E'.ρ j | none => E.ρ i) else E'.ρ (idx.length + (i - hp.length))
  let E'' : En := { N := hp.length + (hp'.length - idx.length), ρ := ρ'', w := E'.w, Fz := E'.Fz, B := E'.B }
  have hlen : (plugHp idx hp hp').length = hp.length + (hp'.length - idx.length) := by simp [plugHp, plugL_length]
  have hle : idx.length ≤ hp'.length := hid.le
  have hmem : ∀ b, E.Fz b ∨ E.B b → E'.w.heap[b]? = E.w.heap[b]? := fun b hb => hev.keep b (h.old b hb) (fun hv => by
    have := h.own b (hLv b hv)
    rcases hb with hb | hb
    · exact this.2.1 hb
    · exact this.2.2 hb)
  have rin : ∀ i j, i < hp.length → posOf idx i = some j → ρ'' i = E'.ρ j := fun i j h1 h2 => by simp only [ρ'', if_pos h1, h2]
  have rout : ∀ i, i < hp.length → posOf idx i = none → ρ'' i = E.ρ i := fun i h1 h2 => by simp only [ρ'', if_pos h1, h2]
  have rnew : ∀ k, ρ'' (hp.length + k) = E'.ρ (idx.length + k) := fun k => by simp only [ρ'']; rw [if_neg (by omega)]; congr 1; omega
  have hren1 : Ren E' E'' (back idx hp.length) := by
    refine ⟨fun j i hj hb => ?_, fun _ hb => hb, fun _ hb => .inl hb, fun _ _ => rfl⟩
    by_cases hjl : j < idx.length
    · have h1 := back_lt hb hjl
      have h2 := hlt i (List.mem_of_getElem? h1)
      exact ⟨by show i < hp.length + _; omega, rin i j h2 (posOf_nodup idx j i hnd h1)⟩
    · have h1 := back_ge hb hjl
      subst h1
      refine ⟨by show _ < hp.length + _; omega, ?_⟩
      show ρ'' _ = _
      rw [rnew]
      congr 1
      omega
  have hkeep : ∀ i j, posOf idx i = some j → ¬ (movedL idx hp').contains i = true → E'.ρ j = E.ρ i := by
    intro i j h1 h2
    have h3 := posOf_some idx i j h1
    have hjl : j < idx.length := (List.getElem?_eq_some_iff.1 h3).1
    have hb : hp'[j]? = some (hp'[j]'(by omega)) := List.getElem?_eq_getElem (by omega)
    have h4 := movedL_spec idx hp' j i _ h3 hb h2
    have h5 := stays_of_idok (hid.id j _ hjl hb) h4
    rw [h5]
    simp [List.getD_eq_getElem?_getD, h3]
  have hren2 : Ren E E'' (but2 (movedL idx hp')) := by
    refine ⟨fun a b ha hab => ?_, fun b hb => hev.fz b hb, fun b hb => .inl (by show E'.B b; rw [hB]; exact hb), hmem⟩
    simp only [but2] at hab
    split at hab
    · cases hab
    · rename_i hc
      cases hab
      have ha' : a < hp.length := by omega
      refine ⟨by show a < hp.length + _; omega, ?_⟩
      show ρ'' a = _
      cases hp0 : posOf idx a with
      | none => exact rout a ha' hp0
      | some j => rw [rin a j ha' hp0]; exact hkeep a j hp0 hc
  -- what stands at a place
  have hget : ∀ k s', (plugHp idx hp hp')[k]? = some s' →
      (k < hp.length ∧ ∃ s, hp[k]? = some s ∧ ((∃ j c, posOf idx k = some j ∧ hp'[j]? = some c ∧ s' = mvOr s (c.ren (back idx hp.length))) ∨ (posOf idx k = none ∧ s' = s.ren (but2 (movedL idx hp'))))) ∨
      (∃ m c, k = hp.length + m ∧ hp'[idx.length + m]? = some c ∧ s' = c.ren (back idx hp.length)) := by
    intro k s' hk
    unfold plugHp at hk
    by_cases hkl : k < hp.length
    · rw [List.getElem?_append_left (by rw [plugL_length]; exact hkl), plugL_get _ _ _ _ hp 0 k _ (List.getElem?_eq_getElem hkl)] at hk
      refine .inl ⟨hkl, _, List.getElem?_eq_getElem hkl, ?_⟩
      rw [Nat.zero_add] at hk
      cases hp0 : posOf idx k with
      | none => rw [hp0] at hk; cases hk; exact .inr ⟨rfl, rfl⟩
      | some j =>
        rw [hp0] at hk
        have hjl : j < idx.length := (List.getElem?_eq_some_iff.1 (posOf_some idx k j hp0)).1
        have hb : hp'[j]? = some (hp'[j]'(by omega)) := List.getElem?_eq_getElem (by omega)
        cases hk
        exact .inl ⟨j, _, rfl, hb, by show mvOr _ ((hp'.getD j .gone).ren _) = _; rw [List.getD_eq_getElem?_getD, hb]; rfl⟩
    · rw [List.getElem?_append_right (by rw [plugL_length]; omega), plugL_length, List.getElem?_map, List.getElem?_drop] at hk
      cases hc : hp'[idx.length + (k - hp.length)]? with
      | none => rw [hc] at hk; cases hk
      | some c => rw [hc] at hk; cases hk; exact .inr ⟨k - hp.length, c, by omega, hc, rfl⟩
  -- a live one's block: of the callee's, or one of those that stayed out
  have hblk : ∀ k s' b, (plugHp idx hp hp')[k]? = some s' → s'.live = true → (ρ'' k).blk = some b →
      (∃ j c, hp'[j]? = some c ∧ c.live = true ∧ (E'.ρ j).blk = some b ∧ ((posOf idx k = some j ∧ k < hp.length) ∨ (k = hp.length + (j - idx.length) ∧ idx.length ≤ j))) ∨
      (∃ s, hp[k]? = some s ∧ s.live = true ∧ (E.ρ k).blk = some b ∧ posOf idx k = none) := by
    intro k s' b hk hl hb
    rcases hget k s' hk with ⟨hkl, s, hs, ⟨j, c, h1, h2, rfl⟩ | ⟨h1, rfl⟩⟩ | ⟨m, c, rfl, h2, rfl⟩
    · have hl := mvOr_live hl
      rw [SB.live_ren] at hl
      rw [rin k j hkl h1] at hb
      exact .inl ⟨j, c, h2, hl, hb, .inl ⟨h1, hkl⟩⟩
    · rw [SB.live_ren] at hl
      rw [rout k hkl h1] at hb
      exact .inr ⟨s, hs, hl, hb, h1⟩
    · rw [SB.live_ren] at hl
      rw [rnew] at hb
      exact .inl ⟨_, c, h2, hl, hb, .inr ⟨by omega, by omega⟩⟩
  have hlv : ∀ b, Lv (plugHp idx hp hp') E'' b → Lv hp' E' b ∨ (Lv hp E b ∧ ¬ Lv ((selHp idx (posOf idx) hp).map SB.reset) { E with N := idx.length, ρ := fun j => E.ρ (idx.getD j 0) } b) := by
    rintro b ⟨k, s', hk, hl, hb⟩
    rcases hblk k s' b hk hl hb with ⟨j, c, h1, h2, h3, _⟩ | ⟨s, h1, h2, h3, h4⟩
    · exact .inl ⟨j, c, h1, h2, h3⟩
    · exact .inr ⟨⟨k, s, h1, h2, h3⟩, hout k s b h1 h2 h3 h4⟩
  refine ⟨E'', rfl, ⟨?_, ?_, ?_, ?_, ?_⟩, hren1, hren2, ?_, ?_⟩
  · show hp.length + _ = _; rw [hlen]
  · intro k s' hk
    show SBok E'' (ρ'' k) s'
    rcases hget k s' hk with ⟨hkl, s, hs, ⟨j, c, h1, h2, rfl⟩ | ⟨h1, rfl⟩⟩ | ⟨m, c, rfl, h2, rfl⟩
    · rw [rin k j hkl h1]
      exact mvOr_ok (SBok.ren hren1 (fun _ _ _ => rfl) (h'.ok j c h2))
    · rw [rout k hkl h1]
      exact SBok.ren hren2 (fun hl b hb => hev.keep b (h.own b ⟨k, s, hs, hl, hb⟩).1 (hout k s b hs hl hb h1)) (h.ok k s hs)
    · rw [rnew]
      exact SBok.ren hren1 (fun _ _ _ => rfl) (h'.ok _ c h2)
  · intro k k2 s1 s2 b hk hk2 hl hl2 hb hb2
    rcases hblk k s1 b hk hl hb with ⟨j, c, h1, h2, h3, h4⟩ | ⟨s, h1, h2, h3, h4⟩ <;> rcases hblk k2 s2 b hk2 hl2 hb2 with ⟨j', c', h1', h2', h3', h4'⟩ | ⟨s', h1', h2', h3', h4'⟩
    · have := h'.dist _ _ _ _ b h1 h1' h2 h2' h3 h3'
      subst this
      rcases h4 with ⟨h4, h5⟩ | ⟨h4, h5⟩ <;> rcases h4' with ⟨h4', h5'⟩ | ⟨h4', h5'⟩
      · have e1 := posOf_some idx k j h4
        have e2 := posOf_some idx k2 j h4'
        rw [e1] at e2; exact Option.some.inj e2
      · have e1 := posOf_some idx k j h4
        have := (List.getElem?_eq_some_iff.1 e1).1
        omega
      · have e1 := posOf_some idx k2 j h4'
        have := (List.getElem?_eq_some_iff.1 e1).1
        omega
      · omega
    · exfalso
      rcases hev.lv b ⟨j, c, h1, h2, h3⟩ with hx | hx
      · exact hout k2 s' b h1' h2' h3' h4' hx
      · have := (h.own b ⟨k2, s', h1', h2', h3'⟩).1
        simp only at hx; omega
    · exfalso
      rcases hev.lv b ⟨j', c', h1', h2', h3'⟩ with hx | hx
      · exact hout k s b h1 h2 h3 h4 hx
      · have := (h.own b ⟨k, s, h1, h2, h3⟩).1
        simp only at hx; omega
    · exact h.dist _ _ _ _ b h1 h1' h2 h2' h3 h3'
  · intro b hb
    rcases hlv b hb with hb | ⟨hb, hnb⟩
    · exact h'.own b hb
    · have := h.own b hb
      refine ⟨Nat.lt_of_lt_of_le this.1 hev.size, fun hf => ?_, fun hf => this.2.2 (by rw [← hB]; exact hf)⟩
      rcases hev.fz' b hf with hx | hx | hx
      · exact this.2.1 hx
      · exact hnb hx
      · simp only at hx; omega
  · exact h'.old
  · refine ⟨hev.os, hev.tape, hev.output, hev.size, fun b hb hn => hev.keep b hb (fun hv => hn (hLv b hv)), fun b hb => ?_, fun b hb => hev.fz b hb, fun b hb => ?_, hB⟩
    · rcases hlv b hb with hb | hb
      · exact (hev.lv b hb).imp (hLv b) id
      · exact .inl hb.1
    · rcases hev.fz' b hb with hx | hx | hx
      · exact .inl hx
      · exact .inr (.inl (hLv b hx))
      · exact .inr (.inr hx)
  · refine ⟨by rw [hlen]; have := hid0.le; omega, fun k s' hk0 hk => idok_of_stays fun hst => ?_⟩
    have hkl : k < hp.length := Nat.lt_of_lt_of_le hk0 hid0.le
    show ρ'' k = ρ0 k
    rcases hget k s' hk with ⟨_, s, hs, ⟨j, c, h1, h2, rfl⟩ | ⟨h1, rfl⟩⟩ | ⟨m, c, rfl, h2, rfl⟩
    · obtain ⟨hst', hst0⟩ := mvOr_stays hst
      rw [SB.stays_ren] at hst'
      have e3 := posOf_some idx k j h1
      have hjl : j < idx.length := (List.getElem?_eq_some_iff.1 e3).1
      have e1 := stays_of_idok (hid.id j c hjl h2) hst'
      have e2 : E.ρ (idx.getD j 0) = E.ρ k := by rw [List.getD_eq_getElem?_getD, e3]; rfl
      rw [rin k j hkl h1, e1]
      show E.ρ (idx.getD j 0) = _
      rw [e2]
      exact stays_of_idok (hid0.id k s hk0 hs) hst0
    · rw [SB.stays_ren] at hst
      rw [rout k hkl h1]
      exact stays_of_idok (hid0.id k s hk0 hs) hst
    · omega

end Go.V
