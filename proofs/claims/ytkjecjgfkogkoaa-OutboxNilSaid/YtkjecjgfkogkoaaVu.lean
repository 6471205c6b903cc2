/- .. code, loops, results. -/
import Derived.Test.YtkjecjgfkogkoaaVtd
namespace Go.V
set_option linter.unusedSimpArgs false
set_option linter.unnecessarySimpa false
set_option linter.unusedVariables false

inductive AS where
  | skip
  | reg (ops : List AOper) (keep : List Nat)
  | regD (ops : List AOper) (items : List DI) (keep : List Nat)
  | regT (ops : List AOper) (items : DT) (keep : List Nat)
  | seq (a b : AS)
  | cond (c : Opd) (a b : AS)
  | block (id : Nat) (body : AS)
  | loop (id : Nat) (keep : List Nat) (body : AS)
  | exit (id : Nat)
  | ret
  | lift (d : Nat) (k : Option Nat) (eb : Nat) (t : Ty) (x : AS)
  | frz (d : Nat) (x : AS)
  | swp (i r c : Nat) (x : AS)

inductive AE where
  | normal
  | exit (id : Nat)
  | ret

structure LoopAnn where
  G : Type
  I : G → SS
  R : G → G → Prop
  μ : G → Nat

def lkA : List (Nat × LoopAnn) → Nat → Option LoopAnn
  | [], _ => none
  | (k, c) :: r, n => bif k == n then some c else lkA r n

def refsHp : Nat → List SB → List Nat
  | 0, _ => []
  | _, [] => []
  | n + 1, b :: r => b.refs ++ refsHp n r

def refsFr : List (Nat × SV) → List Nat
  | [] => []
  | x :: r => x.2.refs ++ refsFr r

/-- A state anew, with these slots alone, and the resources that these and the first n0 reach. -/
def canonI (fr : List (Nat × SV)) (hp : List SB) (idx : List Nat) : SS := ⟨frRen (posOf idx) fr, selHp idx (posOf idx) hp⟩

def canon (n0 : Nat) (keep : List Nat) (s : SS) : SS :=
  canonI (keepF keep s.fr) s.hp (reach s.hp 400 (refsHp n0 s.hp ++ refsFr (keepF keep s.fr)) (List.range n0))

def loopI (A : LoopAnn) (n0 : Nat) (keep : List Nat) (s : SS) (g0 : A.G) (body : (SS → Prop) → SS → Prop) : Prop :=
  canon n0 keep s = A.I g0 ∧ A.R g0 g0 ∧ ∀ g, A.R g0 g → body (fun s' => ∃ g', canon n0 keep s' = A.I g' ∧ A.R g0 g' ∧ A.μ g' < A.μ g) (A.I g)

def contQ (Q : AE → SS → Prop) (K : SS → Prop) : AE → SS → Prop
  | .normal, s => K s
  | e, s => Q e s

def blockQ (id : Nat) (Q : AE → SS → Prop) : AE → SS → Prop
  | .exit id', s => match id' == id with
    | true => Q .normal s
    | false => Q (.exit id') s
  | e, s => Q e s

/-- A list that is nil in a struct's cell: from now on a row of its own. -/
def liftC (s : SS) (i : Nat) (off : Nat) (eb : Nat) (t : Ty) (cells : Option (List SV)) (x : Option SV) : SS :=
  match x with
  | some .nils => match cells with
    | some cells => match splC cells off [.own s.hp.length] with
      | some cells' => setS (pushS s (.row true eb t [])) i (.struct cells')
      | none => s
    | none => s
  | _ => s

def cellsOf (b : Option SB) : Option (List SV) :=
  match b with
  | some (.struct cells) => some cells
  | _ => none

/-- .. and in a slot. -/
def liftS (s : SS) (d : Nat) (k : Option Nat) (eb : Nat) (t : Ty) (x : SV) : SS :=
  match k with
  | none => match x with
    | .nils => ⟨upF s.fr d (.own s.hp.length), s.hp ++ [.row true eb t []]⟩
    | _ => s
  | some k => match x with
    | .ptr i off => liftC s i (off + k) eb t (cellsOf (s.hp[i]?)) (cellV (s.hp[i]?) (off + k) none)
    | _ => s

def rc (Γ : List (Nat × Contract)) (L : List (Nat × LoopAnn)) (n0 : Nat) : AS → (AE → SS → Prop) → SS → Prop
  | .skip, Q, s => Q .normal s
  | .reg ops keep, Q, s => runL Γ ops s (fun s' => Q .normal ⟨keepF keep s'.fr, s'.hp⟩)
  | .regD ops items keep, Q, s => runD Γ ops items s (fun s' => Q .normal ⟨keepF keep s'.fr, s'.hp⟩)
  | .regT ops items keep, Q, s => runT Γ ops items s (fun s' => Q .normal ⟨keepF keep s'.fr, s'.hp⟩)
  | .seq x y, Q, s => rc Γ L n0 x (contQ Q (rc Γ L n0 y Q)) s
  | .cond c x y, Q, s => match s.get c with
    | .bool b => sw b (rc Γ L n0 x Q s) (rc Γ L n0 y Q s)
    | _ => False
  | .block id x, Q, s => rc Γ L n0 x (blockQ id Q) s
  | .loop id keep x, Q, s => match lkA L id with
    | some A => ∃ g0, loopI A n0 keep s g0 (fun K s' => rc Γ L n0 x (contQ Q K) s')
    | none => False
  | .exit id, Q, s => Q (.exit id) s
  | .ret, Q, s => Q .ret s
  | .lift d k eb t x, Q, s => rc Γ L n0 x Q (liftS s d k eb t (lkF s.fr d))
  | .frz d x, Q, s => rc Γ L n0 x Q (frzS s (lkF s.fr d))
  | .swp i r c x, Q, s => rc Γ L n0 x Q (swpS s i (cellV (s.hp[r]?) c none))

/-- The layer's text of code is the code. -/
def okS (P : Program) (nt : Nat) : Code → AS → Bool
  | c, .skip => match c with | .skip => true | _ => false
  | c, .reg al _ => match c with | .region _ ops false => okL P nt ops ops.toList al | _ => false
  | c, .regD al items _ => match c with | .region _ ops true => okDr P nt ops al items | _ => false
  | c, .regT al items _ => match c with | .region _ ops true => okDt P nt ops al items | _ => false
  | c, .seq x y => match c with | .seq a b => okS P nt a x && okS P nt b y | _ => false
  | c, .cond p x y => match c with | .cond q a b => okOpd q p && okS P nt a x && okS P nt b y | _ => false
  | c, .block i x => match c with | .block j a => (j == i) && okS P nt a x | _ => false
  | c, .loop _ _ x => match c with | .loop a => okS P nt a x | _ => false
  | c, .exit i => match c with | .exit j => j == i | _ => false
  | c, .ret => match c with | .ret => true | _ => false
  | c, .lift _ _ _ _ x => okS P nt c x
  | c, .frz _ x => okS P nt c x
  | c, .swp _ _ _ x => okS P nt c x

def settleT (s : SS) (t : Nat) : SS :=
  match settle s (lkF s.fr t) with
  | (x, s') => ⟨upF s'.fr t x, s'.hp⟩

/-- A result: what a slot holds; what the cells show that a slot leads to (n: a struct's cells). -/
inductive RT where
  | t (k : Nat)
  | c (k : Nat) (n : Option Nat)
  -- no results: a row in another one's place; rows frozen
  | w (i r c : Nat)
  | f (k : Nat)

def settleTs : List RT → SS → SS
  | [], s => s
  | .t k :: r, s => settleTs r (settleT s k)
  | .c _ _ :: r, s => settleTs r s
  | .w i r0 c :: r, s => settleTs r (swpS s i (cellV (s.hp[r0]?) c none))
  | .f k :: r, s => settleTs r (frzS s (lkF s.fr k))

def ptrV (hp : List SB) (x : SV) (n : Option Nat) : Option SV :=
  match x with
  | .ptr i off => cellV (hp[i]?) off n
  | _ => none

def resI (s : SS) : RT → Option SV
  | .t k => some (lkF s.fr k)
  | .c k n => ptrV s.hp (lkF s.fr k) n
  | _ => none

def consV (x : Option SV) (l : Option (List SV)) : Option (List SV) :=
  match x with
  | some x => match l with
    | some l => some (x :: l)
    | none => none
  | none => none

def resL (s : SS) : List RT → Option (List SV)
  | [] => some []
  | .w _ _ _ :: r => resL s r
  | .f _ :: r => resL s r
  | .t k :: r => consV (resI s (.t k)) (resL s r)
  | .c k n :: r => consV (resI s (.c k n)) (resL s r)

def oneV : List SV → SV
  | [x] => x
  | l => .tup l

def finI (r : SV) (hp : List SB) (idx : List Nat) (K : SV → List SB → Prop) : Prop := K (r.ren (posOf idx)) (selHp idx (posOf idx) hp)
def finR (n0 : Nat) (r : SV) (hp : List SB) (K : SV → List SB → Prop) : Prop := finI r hp (reach hp 400 (refsHp n0 hp ++ r.refs) (List.range n0)) K
def finO (n0 : Nat) (r : Option (List SV)) (hp : List SB) (K : SV → List SB → Prop) : Prop :=
  match r with
  | some l => finR n0 (oneV l) hp K
  | none => False
def finS (n0 : Nat) (rs : List RT) (s : SS) (K : SV → List SB → Prop) : Prop := finO n0 (resL s rs) s.hp K

/-- The function's end. -/
def fin (n0 : Nat) (rs : List RT) (K : SV → List SB → Prop) : AE → SS → Prop
  | .normal, s => finS n0 rs (settleTs rs s) K
  | .ret, s => finS n0 rs (settleTs rs s) K
  | .exit _, _ => False

def frArgs : Nat → List SV → List (Nat × SV)
  | _, [] => []
  | n, x :: r => (n, x) :: frArgs (n + 1) r

/-! ### soundness -/
theorem reach_prefix (hp : List SB) : ∀ (n : Nat) (todo acc : List Nat), ∃ t, reach hp n todo acc = acc ++ t
  | 0, _, acc => ⟨[], by simp [reach]⟩
  | _ + 1, [], acc => ⟨[], by simp [reach]⟩
  | n + 1, i :: todo, acc => by
    simp only [reach]
    split
    · exact reach_prefix hp n todo acc
    · split
      · exact reach_prefix hp n todo acc
      · split
        · rename_i b _ _
          obtain ⟨t, h⟩ := reach_prefix hp n (b.refs ++ todo) (acc ++ [i])
          exact ⟨i :: t, by rw [h]; simp⟩
        · exact reach_prefix hp n todo acc

section sound
variable {P : Program} {S : Start} {Γ : List (Nat × Contract)} {L : List (Nat × LoopAnn)} {s : SS} {E : En} {a : Act}

theorem sel_sat (hs : Sat S s E a) {idx : List Nat} (hnd : idx.Nodup) (hlt : ∀ i ∈ idx, i < s.hp.length) (hpre : ∀ i, i < S.hp.length → idx[i]? = some i) :
    Sat S ⟨frRen (posOf idx) s.fr, selHp idx (posOf idx) s.hp⟩ { E with N := idx.length, ρ := fun j => E.ρ (idx.getD j 0) } a ∧ Ren E { E with N := idx.length, ρ := fun j => E.ρ (idx.getD j 0) } (posOf idx) := by
  obtain ⟨h1, hren⟩ := sel_sound hs.hs hnd hlt
  have hsel : ∀ (j : Nat) sj, (selHp idx (posOf idx) s.hp)[j]? = some sj → ∃ i s0, idx[j]? = some i ∧ s.hp[i]? = some s0 ∧ sj = s0.ren (posOf idx) := by
    intro j sj hj
    unfold selHp at hj
    rw [List.getElem?_map] at hj
    cases hi : idx[j]? with
    | none => rw [hi] at hj; cases hj
    | some i =>
      rw [hi] at hj
      cases hj
      have := hlt i (List.mem_of_getElem? hi)
      exact ⟨i, _, rfl, List.getElem?_eq_getElem this, by simp [List.getD_eq_getElem?_getD, List.getElem?_eq_getElem this]⟩
  have hrho : ∀ j i, idx[j]? = some i → E.ρ (idx.getD j 0) = E.ρ i := fun j i h => by rw [List.getD_eq_getElem?_getD, h]; rfl
  have hlv : ∀ b, Lv (selHp idx (posOf idx) s.hp) { E with N := idx.length, ρ := fun j => E.ρ (idx.getD j 0) } b → Lv s.hp E b := by
    rintro b ⟨j, sj, hj, hjl, hjb⟩
    obtain ⟨i, s0, h2, h3, rfl⟩ := hsel j sj hj
    rw [SB.live_ren] at hjl
    simp only at hjb
    rw [hrho j i h2] at hjb
    exact ⟨i, s0, h3, hjl, hjb⟩
  refine ⟨⟨h1, hs.fr.ren hren, hs.ev.trans ⟨rfl, rfl, rfl, Nat.le_refl _, fun _ _ _ => rfl, fun b hb => .inl (hlv b hb), fun _ h => h, fun _ h => .inl h, rfl⟩, ⟨?_, fun i sb hi hsb => ?_⟩, hs.defers, hs.size⟩, hren⟩
  · show S.hp.length ≤ (selHp _ _ _).length
    unfold selHp
    rw [List.length_map]
    rcases Nat.lt_or_ge idx.length S.hp.length with h | h
    · have := hpre idx.length h
      simp at this
    · exact h
  · obtain ⟨i', s0, h2, h3, rfl⟩ := hsel i sb hsb
    rw [hpre i hi] at h2
    cases h2
    show idok _ _ (E.ρ (idx.getD i 0))
    rw [hrho i i (hpre i hi)]
    exact idok_ren (hs.id.id i s0 hi h3)

theorem idx_ok (hs : Sat S s E a) (todo : List Nat) : (reach s.hp 400 todo (List.range S.hp.length)).Nodup ∧ (∀ i ∈ reach s.hp 400 todo (List.range S.hp.length), i < s.hp.length) ∧ (∀ i, i < S.hp.length → (reach s.hp 400 todo (List.range S.hp.length))[i]? = some i) := by
  obtain ⟨h1, h2⟩ := reach_ok s.hp 400 todo (List.range S.hp.length) List.nodup_range (fun i hi => by have := hs.id.le; simp at hi; omega)
  obtain ⟨t, ht⟩ := reach_prefix s.hp 400 todo (List.range S.hp.length)
  refine ⟨h1, h2, fun i hi => ?_⟩
  rw [ht, List.getElem?_append_left (by simpa using hi)]
  simp [hi]

theorem canon_sat (hs : Sat S s E a) (keep : List Nat) : ∃ E', E'.w = E.w ∧ Sat S (canon S.hp.length keep s) E' a := by
  have hs' : Sat S ⟨keepF keep s.fr, s.hp⟩ E a := hs.frame (hs.fr.keep keep)
  obtain ⟨h1, h2, h3⟩ := idx_ok hs' (refsHp S.hp.length s.hp ++ refsFr (keepF keep s.fr))
  refine ⟨_, ?_, (sel_sat hs' h1 h2 h3).1⟩
  rfl

/-- What is owed of an end. -/
def QQ (S : Start) (Q : AE → SS → Prop) : Exit → Act → World → Prop
  | .normal, a, w => ∃ s E, E.w = w ∧ Sat S s E a ∧ Q .normal s
  | .exit id, a, w => ∃ s E, E.w = w ∧ Sat S s E a ∧ Q (.exit id) s
  | .ret, a, w => ∃ s E, E.w = w ∧ Sat S s E a ∧ Q .ret s
  | _, _, _ => False

theorem exists_least {α : Type} (p : α → Prop) (μ : α → Nat) (h : ∃ x, p x) : ∃ x, p x ∧ ∀ y, p y → μ x ≤ μ y := by
  obtain ⟨x, hx⟩ := h
  have key : ∀ n x, μ x = n → p x → ∃ x, p x ∧ ∀ y, p y → μ x ≤ μ y := by
    intro n
    induction n using Nat.strongRecOn with
    | _ n ih =>
      intro x hn hx
      by_cases h : ∃ y, p y ∧ μ y < n
      · obtain ⟨y, hy, hlt⟩ := h
        exact ih (μ y) hlt y rfl hy
      · exact ⟨x, hx, fun y hy => by
          rcases Nat.lt_or_ge (μ y) n with h' | h'
          · exact absurd ⟨y, hy, h'⟩ h
          · omega⟩
  exact key _ x rfl hx

theorem lift_row {s : SS} {E : En} {a : Act} (hs : Sat S s E a) (eb : Nat) (t : Ty) : ∃ E', E'.w = E.w ∧ Sat S (pushS s (.row true eb t [])) E' a ∧ ∀ v, v = .slice none 0 0 → den E' (.own s.hp.length) v := by
  have h := hs.push (b' := .row true eb t []) (w' := E.w) (rv' := ⟨none, .slice none 0 0⟩) (Chg.refl _ _) (fun b hb => by cases hb) (.inl ⟨⟨none, rfl⟩, rfl, rfl⟩)
  refine ⟨{ E with N := E.N + 1, ρ := upR E.ρ E.N ⟨none, .slice none 0 0⟩, w := E.w }, rfl, h, fun v hv => ?_⟩
  subst hv
  simp only [den]
  refine ⟨by show s.hp.length < E.N + 1; have := hs.hs.n; omega, ?_, rfl⟩
  show _ = (upR E.ρ E.N _ s.hp.length).val
  rw [← hs.hs.n, upd_same]

theorem lift_sound {s : SS} {E : En} {a : Act} (hs : Sat S s E a) (d : Nat) (k : Option Nat) (eb : Nat) (t : Ty) : ∃ E', E'.w = E.w ∧ Sat S (liftS s d k eb t (lkF s.fr d)) E' a := by
  unfold liftS
  split
  · split
    · rename_i hx
      obtain ⟨E', e1, h1, h2⟩ := lift_row hs eb t
      refine ⟨E', e1, h1.frame (fun j => ?_)⟩
      rw [lkF_up]
      split
      · rename_i hj
        subst hj
        have := hs.fr j
        rw [hx] at this
        simp only [den] at this
        exact h2 _ this
      · exact h1.fr j
    · exact ⟨E, rfl, hs⟩
  · rename_i k
    split
    · rename_i i off hx
      unfold liftC
      split
      · rename_i hnil
        split
        · rename_i cells hcs
          split
          · rename_i cells' hsp
            have hi : s.hp[i]? = some (.struct cells) := by
              unfold cellsOf at hcs
              split at hcs
              · rename_i c hc; cases hcs; exact hc
              · cases hcs
            rw [hi] at hnil
            obtain ⟨E', e1, h1, h2⟩ := lift_row hs eb t
            have hlt : i < s.hp.length := (List.getElem?_eq_some_iff.1 hi).1
            have hi' : (pushS s (.row true eb t [])).hp[i]? = some (.struct cells) := by
              show (s.hp ++ [_])[i]? = _
              rw [List.getElem?_append_left hlt]; exact hi
            have hok := h1.hs.ok i _ hi'
            obtain ⟨b, cur, T, fr, k1, k2, k3, k4⟩ := hok
            refine ⟨E', e1, ?_⟩
            have := h1.setSame (sb' := .struct cells') hi' rfl (w' := E'.w) (Chg.refl _ _) ?_ rfl (fun rv0 h => h)
            · exact this
            · -- the cells are as they were
              have hd : ∃ r, dropC cells (off + k) = some r ∧ headC r = some .nils := by
                simp only [cellV, headO] at hnil
                split at hnil
                · rename_i r hr; exact ⟨r, hr, hnil⟩
                · cases hnil
              obtain ⟨r, hr, hh⟩ := hd
              obtain ⟨j1, j2⟩ := denC_drop _ _ _ _ k4 hr
              obtain ⟨v, c2, j3, j4⟩ := denC_head j1 hh
              simp only [den] at j4
              have hn : denC E' [.own s.hp.length] [v] := by
                rw [denC_cons rfl]; exact ⟨v, [], rfl, h2 v j4, by simp only [denC]⟩
              obtain ⟨j5, j6⟩ := denC_spl k4 hn hsp
              refine ⟨b, cur, T, fr, k1, k2, k3, ?_⟩
              have : cur.toList.take (off + k) ++ ([v] ++ cur.toList.drop (off + k + [v].length)) = cur.toList := by
                have e : cur.toList.drop (off + k) = v :: c2 := j3
                have e2 : cur.toList.drop (off + k + [v].length) = c2 := by
                  rw [← List.drop_drop, e]; rfl
                rw [e2]
                have : [v] ++ c2 = cur.toList.drop (off + k) := by rw [e]; rfl
                rw [this, List.take_append_drop]
              rw [this] at j5
              exact j5
          · exact ⟨E, rfl, hs⟩
        · exact ⟨E, rfl, hs⟩
      · exact ⟨E, rfl, hs⟩
    · exact ⟨E, rfl, hs⟩

theorem rc_sound (hΓ : GOk P Γ) : ∀ (ac : AS) (c : Code) (Q : AE → SS → Prop) (s : SS) (E : En) (a : Act), okS P S.nt c ac = true → Sat S s E a → rc Γ L S.hp.length ac Q s → c.wp P (QQ S Q) a E.w
  | .skip, c, Q, s, E, a, hok, hs, h => by
    cases c <;> first | (simp [okS] at hok; done) | skip
    exact wp_skip ⟨s, E, rfl, hs, h⟩
  | .reg al keep, c, Q, s, E, a, hok, hs, h => by
    cases c <;> first | (simp [okS] at hok; done) | skip
    rename_i i ops d
    cases d
    · simp only [okS] at hok
      refine wp_region ?_
      have := runL_sound hΓ (Q := QQ S Q) ops.toList al 0 rfl hok s E a _ hs h (fun s' E' a' hk hs' => ⟨_, E', rfl, hs'.frame (hs'.fr.keep keep), hk⟩)
      simpa using this
    · simp [okS] at hok
  | .regD al items keep, c, Q, s, E, a, hok, hs, h => by
    cases c <;> first | (simp [okS] at hok; done) | skip
    rename_i i ops d
    cases d
    · simp [okS] at hok
    · simp only [okS] at hok
      exact drawn_sound hΓ hok (fun _ _ _ h => h) (fun s' E' a' hk hs' => ⟨_, E', rfl, hs'.frame (hs'.fr.keep keep), hk⟩) hs h
  | .regT al items keep, c, Q, s, E, a, hok, hs, h => by
    cases c <;> first | (simp [okS] at hok; done) | skip
    rename_i i ops d
    cases d
    · simp [okS] at hok
    · simp only [okS] at hok
      exact drawnT_sound hΓ hok (fun _ _ _ h => h) (fun s' E' a' hk hs' => ⟨_, E', rfl, hs'.frame (hs'.fr.keep keep), hk⟩) hs h
  | .seq x y, c, Q, s, E, a, hok, hs, h => by
    cases c <;> simp only [okS] at hok <;> first | cases hok | skip
    simp only [Bool.and_eq_true] at hok
    refine wp_seq (wp_mono (rc_sound hΓ x _ _ s E a hok.1 hs h) ?_)
    intro e a' w' hq
    cases e with
    | normal =>
      obtain ⟨s', E', rfl, hs', hk⟩ := hq
      exact rc_sound hΓ y _ Q s' E' a' hok.2 hs' hk
    | exit id => obtain ⟨s', E', rfl, hs', hk⟩ := hq; exact ⟨s', E', rfl, hs', hk⟩
    | ret => obtain ⟨s', E', rfl, hs', hk⟩ := hq; exact ⟨s', E', rfl, hs', hk⟩
    | goto l => exact hq.elim
    | panic ch => exact hq.elim
    | outgrown => exact hq.elim
  | .cond p x y, c, Q, s, E, a, hok, hs, h => by
    cases c <;> simp only [okS] at hok <;> first | cases hok | skip
    simp only [Bool.and_eq_true] at hok
    obtain ⟨⟨h1, h2⟩, h3⟩ := hok
    have g := get_sound h1 hs.fr
    simp only [rc] at h
    split at h
    · rename_i b hb
      rw [hb] at g
      simp only [den] at g
      exact wp_cond_split g (fun hb => rc_sound hΓ x _ Q s E a h2 hs (sw_true h hb)) (fun hb => rc_sound hΓ y _ Q s E a h3 hs (sw_false h hb))
    · cases h
  | .block i x, c, Q, s, E, a, hok, hs, h => by
    cases c <;> simp only [okS] at hok <;> first | cases hok | skip
    simp only [Bool.and_eq_true, beq_iff_eq] at hok
    obtain ⟨rfl, hok⟩ := hok
    refine wp_block (wp_mono (rc_sound hΓ x _ _ s E a hok hs h) ?_)
    intro e a' w' hq
    cases e with
    | normal => exact hq
    | exit id =>
      obtain ⟨s', E', rfl, hs', hk⟩ := hq
      simp only [blockQ] at hk
      simp only [Exit.inBlock]
      split at hk
      · rename_i he
        rw [if_pos (by simpa using he)]
        exact ⟨s', E', rfl, hs', hk⟩
      · rename_i he
        rw [if_neg (by simpa using he)]
        exact ⟨s', E', rfl, hs', hk⟩
    | ret => exact hq
    | goto l => exact hq
    | panic ch => exact hq
    | outgrown => exact hq
  | .loop i keep x, c, Q, s, E, a, hok, hs, h => by
    cases c <;> simp only [okS] at hok <;> first | cases hok | skip
    simp only [rc] at h
    split at h
    · rename_i A hA
      obtain ⟨g0, h1, h2, h3⟩ := h
      let good : Act → World → A.G → Prop := fun a w g => A.R g0 g ∧ ∃ E, E.w = w ∧ Sat S (A.I g) E a
      have least : ∀ a w, (∃ g, good a w g) → ∃ g, good a w g ∧ ∀ g', good a w g' → A.μ g ≤ A.μ g' := fun a w h => exists_least _ _ h
      have cl := Classical.propDecidable
      let m : Act → World → Nat := fun a w => if h : ∃ g, good a w g then A.μ (Classical.choose (least a w h)) else 0
      refine wp_loop (fun a w => ∃ g, good a w g) m ?_ ?_
      · obtain ⟨E', e1, e2⟩ := canon_sat hs keep
        rw [h1] at e2
        exact ⟨g0, h2, E', e1, e2⟩
      · intro a w hI
        have hm : m a w = A.μ (Classical.choose (least a w hI)) := by simp only [m]; rw [dif_pos hI]
        obtain ⟨⟨hR, E', rfl, hsat⟩, hmin⟩ := Classical.choose_spec (least a w hI)
        generalize Classical.choose (least a E'.w hI) = g at hm hR hsat hmin
        refine wp_mono (rc_sound hΓ x _ _ _ E' a hok hsat (h3 g hR)) ?_
        intro e a' w' hq
        cases e with
        | normal =>
          obtain ⟨s', E2, rfl, hs', g', k1, k2, k3⟩ := hq
          obtain ⟨E3, e1, e2⟩ := canon_sat hs' keep
          rw [k1] at e2
          have hg' : good a' E2.w g' := ⟨k2, E3, e1, e2⟩
          refine ⟨⟨g', hg'⟩, ?_⟩
          have hex : ∃ g, good a' E2.w g := ⟨g', hg'⟩
          have hm' : m a' E2.w = A.μ (Classical.choose (least a' E2.w hex)) := by simp only [m]; rw [dif_pos hex]
          have := (Classical.choose_spec (least a' E2.w hex)).2 g' hg'
          rw [hm, hm']
          exact Nat.lt_of_le_of_lt this k3
        | exit id => obtain ⟨s', E2, rfl, hs', hk⟩ := hq; exact ⟨s', E2, rfl, hs', hk⟩
        | ret => obtain ⟨s', E2, rfl, hs', hk⟩ := hq; exact ⟨s', E2, rfl, hs', hk⟩
        | goto l => exact hq.elim
        | panic ch => exact hq.elim
        | outgrown => exact hq.elim
    · cases h
  | .exit i, c, Q, s, E, a, hok, hs, h => by
    cases c <;> simp only [okS] at hok <;> first | cases hok | skip
    have := beq_iff_eq.1 hok
    subst this
    exact wp_exit ⟨s, E, rfl, hs, h⟩
  | .ret, c, Q, s, E, a, hok, hs, h => by
    cases c <;> first | (simp [okS] at hok; done) | skip
    exact wp_ret ⟨s, E, rfl, hs, h⟩
  | .lift d k eb t x, c, Q, s, E, a, hok, hs, h => by
    rw [okS] at hok
    rw [rc] at h
    obtain ⟨E', e1, h1⟩ := lift_sound hs d k eb t
    rw [← e1]
    exact rc_sound hΓ x c Q _ E' a hok h1 h
  | .frz d x, c, Q, s, E, a, hok, hs, h => by
    rw [okS] at hok
    rw [rc] at h
    obtain ⟨E', e1, h1⟩ := frzS_sat hs (lkF s.fr d)
    rw [← e1]
    exact rc_sound hΓ x c Q _ E' a hok h1 h
  | .swp i r c' x, c, Q, s, E, a, hok, hs, h => by
    rw [okS] at hok
    rw [rc] at h
    obtain ⟨E', e1, h1⟩ := swpS_sat hs i (cellV (s.hp[r]?) c' none)
    rw [← e1]
    exact rc_sound hΓ x c Q _ E' a hok h1 h

end sound
end Go.V
