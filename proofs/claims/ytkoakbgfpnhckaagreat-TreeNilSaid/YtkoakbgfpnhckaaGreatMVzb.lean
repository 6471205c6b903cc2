/- .. code, functions, and that it is right. -/
import Derived.Test.YtkoakbgfpnhckaaGreatMVz
import Derived.Test.YtkoakbgfpnhckaaGreatR2
import Derived.Test.YtkoakbgfpnhckaaGreatMF4
import Derived.Test.YtkoakbgfpnhckaaGreatR3
import Derived.Shelf.Small.Strs
namespace Go.V
set_option linter.unusedSimpArgs false
set_option linter.unnecessarySimpa false
set_option linter.unusedVariables false
def stepX (R : Run) (o : AOper) (s : SS) : Outs SS :=
 match o.op.quiet with
 | true => match evX o.op s with
  | some v => some [s.put o.dst v]
  | none => none
 | false => oMap (fun p : SV × SS => p.2.put o.dst p.1) (effX R o.op s)
theorem stepX_ok {R : Run} {Γ : List (Nat × Contract)} (hR : RunOk R Γ) {o : AOper} {s : SS} {K : SS → Prop} (h : oAll (stepX R o s) K) : step Γ o s K := by
 unfold stepX at h
 unfold step
 split at h
 ·rename_i hq
  split at h <;> first | exact (oAll_none h).elim | skip
  rename_i hv
  rw [hq]
  exact evX_ok hv (K := goK s o.dst K) (oAll_one (p := K) h)
 ·rename_i hq
  rw [hq]
  exact effX_ok hR (K := goE o.dst K) (oAll_map h)
def runLX (R : Run) : List AOper → SS → Outs SS
 | [], s => some [s]
 | o :: r, s => match o.guard with
  | none => oBind (stepX R o s) (runLX R r)
  | some (slot, want) => match lkF s.fr slot with
   | .bool b => match b == want with
    | true => oBind (stepX R o (s.put (some slot) (.bool want))) (runLX R r)
    | false => runLX R r ((s.put (some slot) (.bool (!want))).put o.dst (.tup []))
   | .tup [] => runLX R r (s.put o.dst (.tup []))
   | _ => none
theorem runLX_ok {R : Run} {Γ : List (Nat × Contract)} (hR : RunOk R Γ) {K : SS → Prop} : ∀ (l : List AOper) (s : SS), oAll (runLX R l s) K → runL Γ l s K
 | [], s, h => show K s from oAll_one (p := K) h
 | o :: r, s, h => by
  unfold runLX at h
  unfold runL
  split at h
  ·rename_i hg
   simp only [hg]
   exact stepX_ok hR (oAll_mono (oAll_bind h) fun s' hs' => runLX_ok hR r s' hs')
  ·rename_i hg
   simp only [hg]
   split at h <;> first | exact (oAll_none h).elim | skip
   ·rename_i hl
    simp only [hl]
    split at h
    ·rename_i hb
     rw [hb]
     exact stepX_ok hR (oAll_mono (oAll_bind h) fun s' hs' => runLX_ok hR r s' hs')
    ·rename_i hb
     rw [hb]
     exact runLX_ok hR r _ h
   ·rename_i hl
    simp only [hl]
    exact runLX_ok hR r _ h
/-! ### regions whose order is open -/
def eqKX (s : SS) (d : Option Nat) (v : SV) : Bool :=
 match d with
 | some d => svEq (lkF s.fr d) v
 | none => false
def chkX (o : AOper) (s : SS) : Bool :=
 match o.guard with
 | none => match evX o.op s with
  | some v => eqKX s o.dst v
  | none => false
 | some (slot, want) => match lkF s.fr slot with
  | .bool b => match b == want with
   | true => match evX o.op s with
    | some v => eqKX s o.dst v
    | none => false
   | false => eqKX s o.dst (.tup [])
  | .tup [] => eqKX s o.dst (.tup [])
  | _ => false
theorem eqKX_ok {s : SS} {d : Option Nat} {v : SV} (h : eqKX s d v = true) : eqK s d v := by
 unfold eqKX at h
 split at h
 ·exact svEq_eq _ _ h
 ·cases h
theorem chkX_ok {o : AOper} {s : SS} (h : chkX o s = true) : chk1 o s := by
 unfold chkX at h
 unfold chk1
 split at h
 ·rename_i hg
  split at h <;> first | cases h | skip
  rename_i hv
  simp only [hg]
  exact evX_ok hv (eqKX_ok h)
 ·rename_i hg
  simp only [hg]
  split at h <;> first | cases h | skip
  ·rename_i hl
   simp only [hl]
   split at h
   ·rename_i hb
    rw [hb]
    split at h <;> first | cases h | skip
    rename_i hv
    exact evX_ok hv (eqKX_ok h)
   ·rename_i hb
    rw [hb]
    exact eqKX_ok h
  ·rename_i hl
   simp only [hl]
   exact eqKX_ok h
def chkLX (al : List AOper) : List Nat → SS → Bool
 | [], _ => true
 | i :: r, s => chkX (atA al i) s && chkLX al r s
theorem chkLX_ok {al : List AOper} {s : SS} : ∀ l, chkLX al l s = true → chkL al l s
 | [], _ => trivial
 | i :: r, h => by
  simp only [chkLX, Bool.and_eq_true] at h
  exact ⟨chkX_ok h.1, chkLX_ok r h.2⟩
def runEX (R : Run) (o : AOper) (s : SS) : Outs (Bool × SS) :=
 match o.guard with
 | none => oMap (fun s' => (true, s')) (stepX R o s)
 | some (slot, want) => match lkF s.fr slot with
  | .bool b => match b == want with
   | true => oMap (fun s' => (true, s')) (stepX R o (s.put (some slot) (.bool want)))
   | false => some [(false, (s.put (some slot) (.bool (!want))).put o.dst (.tup []))]
  | .tup [] => some [(false, s.put o.dst (.tup []))]
  | _ => none
theorem runEX_ok {R : Run} {Γ : List (Nat × Contract)} (hR : RunOk R Γ) {o : AOper} {s : SS} {K1 K2 : SS → Prop} (h : oAll (runEX R o s) (fun p => (p.1 = true → K1 p.2) ∧ (p.1 = false → K2 p.2))) : runE Γ o s K1 K2 := by
 unfold runEX at h
 unfold runE
 split at h
 ·rename_i hg
  simp only [hg]
  exact stepX_ok hR (oAll_mono (oAll_map h) fun s' hs' => hs'.1 rfl)
 ·rename_i hg
  simp only [hg]
  split at h <;> first | exact (oAll_none h).elim | skip
  ·rename_i hl
   simp only [hl]
   split at h
   ·rename_i hb
    rw [hb]
    exact stepX_ok hR (oAll_mono (oAll_map h) fun s' hs' => hs'.1 rfl)
   ·rename_i hb
    rw [hb]
    exact (oAll_one h).2 rfl
  ·rename_i hl
   simp only [hl]
   exact (oAll_one h).2 rfl
def afterX (al : List AOper) (pend : List Nat) (f : SS → Outs SS) (p : Bool × SS) : Outs SS :=
 match p with
 | (true, s) => match chkLX al pend s with
  | true => f s
  | false => none
 | (false, s) => f s
theorem afterX_ok {al : List AOper} {pend : List Nat} {f : SS → Outs SS} {p : Bool × SS} {K : SS → Prop} (h : oAll (afterX al pend f p) K) : (p.1 = true → chkL al pend p.2 ∧ oAll (f p.2) K) ∧ (p.1 = false → oAll (f p.2) K) := by
 obtain ⟨b, s⟩ := p
 cases b
 ·exact ⟨fun e => (by cases e), fun _ => h⟩
 ·simp only [afterX] at h
  split at h <;> first | exact (oAll_none h).elim | skip
  rename_i hc
  exact ⟨fun _ => ⟨chkLX_ok _ hc, h⟩, fun e => (by cases e)⟩
def runDX (R : Run) (al : List AOper) : List DI → SS → Outs SS
 | [], s => some [s]
 | .q i :: r, s => oBind (runEX R (atA al i) s) (fun p => runDX R al r p.2)
 | .e i pend :: r, s => oBind (runEX R (atA al i) s) (afterX al pend (runDX R al r))
theorem runDX_ok {R : Run} {Γ : List (Nat × Contract)} (hR : RunOk R Γ) {al : List AOper} {K : SS → Prop} : ∀ (l : List DI) (s : SS), oAll (runDX R al l s) K → runD Γ al l s K
 | [], s, h => show K s from oAll_one (p := K) h
 | .q i :: r, s, h => by
  unfold runDX at h
  unfold runD
  exact runEX_ok hR (oAll_mono (oAll_bind h) fun p hp => ⟨fun _ => runDX_ok hR r _ hp, fun _ => runDX_ok hR r _ hp⟩)
 | .e i pend :: r, s, h => by
  unfold runDX at h
  unfold runD
  exact runEX_ok hR (oAll_mono (oAll_bind h) fun p hp => ⟨fun e => ⟨((afterX_ok hp).1 e).1, runDX_ok hR r _ ((afterX_ok hp).1 e).2⟩, fun e => runDX_ok hR r _ ((afterX_ok hp).2 e)⟩)
def runTX (R : Run) (al : List AOper) : DT → SS → Outs SS
 | .done, s => some [s]
 | .q i r, s => oBind (runEX R (atA al i) s) (fun p => runTX R al r p.2)
 | .e i pend r alt, s => oApp (oBind (runEX R (atA al i) s) (afterX al pend (runTX R al r))) (runTX R al alt s)
 | .no, _ => some []
theorem runTX_ok {R : Run} {Γ : List (Nat × Contract)} (hR : RunOk R Γ) {al : List AOper} {K : SS → Prop} : ∀ (t : DT) (s : SS), oAll (runTX R al t s) K → runT Γ al t s K
 | .done, s, h => show K s from oAll_one (p := K) h
 | .q i r, s, h => by
  unfold runTX at h
  unfold runT
  exact runEX_ok hR (oAll_mono (oAll_bind h) fun p hp => ⟨fun _ => runTX_ok hR r _ hp, fun _ => runTX_ok hR r _ hp⟩)
 | .e i pend r alt, s, h => by
  unfold runTX at h
  unfold runT
  have h := oAll_app h
  exact ⟨runEX_ok hR (oAll_mono (oAll_bind h.1) fun p hp => ⟨fun e => ⟨((afterX_ok hp).1 e).1, runTX_ok hR r _ ((afterX_ok hp).1 e).2⟩, fun e => runTX_ok hR r _ ((afterX_ok hp).2 e)⟩), runTX_ok hR alt s h.2⟩
 | .no, s, h => trivial
/-! ### code -/
def keepX (keep : List Nat) (s : SS) : AE × SS := (.normal, ⟨keepF keep s.fr, s.hp⟩)
def blockE (id : Nat) (p : AE × SS) : AE × SS :=
 match p with
 | (.exit id', s) => match id' == id with
  | true => (.normal, s)
  | false => (.exit id', s)
 | p => p
def contE (f : SS → Outs (AE × SS)) (p : AE × SS) : Outs (AE × SS) :=
 match p with
 | (.normal, s) => f s
 | p => some [p]
def normals (n0 : Nat) (keep : List Nat) : List (AE × SS) → List SS
 | [] => []
 | p :: r => match p with
  | (.normal, s) => canon n0 keep s :: normals n0 keep r
  | _ => normals n0 keep r
def exits : List (AE × SS) → List (AE × SS)
 | [] => []
 | p :: r => match p with
  | (.normal, s) => exits r
  | p => p :: exits r
theorem normals_mem {n0 : Nat} {keep : List Nat} {s : SS} : ∀ {l : List (AE × SS)}, (AE.normal, s) ∈ l → canon n0 keep s ∈ normals n0 keep l
 | p :: r, h => by
  rcases List.mem_cons.1 h with e | hr
  ·subst e; exact List.mem_cons_self
  ·have ih := normals_mem (n0 := n0) (keep := keep) hr
   simp only [normals]
   split
   ·exact List.mem_cons_of_mem _ ih
   ·exact ih
theorem exits_mem {p : AE × SS} (hp : p.1 ≠ .normal) : ∀ {l : List (AE × SS)}, p ∈ l → p ∈ exits l
 | q :: r, h => by
  simp only [exits]
  rcases List.mem_cons.1 h with e | hr
  ·subst e
   split
   ·exact absurd rfl hp
   ·exact List.mem_cons_self
  ·have ih := exits_mem hp hr
   split
   ·exact ih
   ·exact List.mem_cons_of_mem _ ih
def consL (l : List (AE × SS)) (o : Outs (AE × SS)) : Outs (AE × SS) :=
 match o with
 | some r => some (l ++ r)
 | none => none
def iterX (body : SS → Outs (AE × SS)) (n0 : Nat) (keep : List Nat) : Nat → List SS → Outs (AE × SS)
 | 0, _ => none
 | n + 1, ss => match ss with
  | [] => some []
  | ss => match oBindL body ss with
   | none => none
   | some l => consL (exits l) (iterX body n0 keep n (nubL ssEq (normals n0 keep l)))
def xc (R : Run) (N : Nat) (n0 : Nat) : AS → SS → Outs (AE × SS)
 | .skip, s => some [(.normal, s)]
 | .reg ops keep, s => oMap (keepX keep) (runLX R ops s)
 | .regD ops items keep, s => oMap (keepX keep) (runDX R ops items s)
 | .regT ops items keep, s => oMap (keepX keep) (runTX R ops items s)
 | .seq x y, s => oBind (xc R N n0 x s) (contE (xc R N n0 y))
 | .cond c x y, s => match s.get c with
  | .bool b => match b with
   | true => xc R N n0 x s
   | false => xc R N n0 y s
  | _ => none
 | .block id x, s => oMap (blockE id) (xc R N n0 x s)
 | .loop id keep x, s => iterX (xc R N n0 x) n0 keep N [canon n0 keep s]
 | .exit id, s => some [(.exit id, s)]
 | .ret, s => some [(.ret, s)]
 | .lift d k eb t x, s => xc R N n0 x (liftS s d k eb t (lkF s.fr d))
 | .frz d x, s => xc R N n0 x (frzS s (lkF s.fr d))
 | .swp i r c x, s => xc R N n0 x (swpS s i (cellV (s.hp[r]?) c none))
 | .no, _ => none
structure LG where
 s : SS
 n : Nat
 ss : List SS
 out : List (AE × SS)
 keep : List Nat
 x : AS
def LA (R : Run) (N n0 : Nat) : LoopAnn where
 G := LG
 I g := g.s
 R g0 g := g.keep = g0.keep ∧ g.x = g0.x ∧ iterX (xc R N n0 g.x) n0 g.keep g.n g.ss = some g.out ∧ g.s ∈ g.ss ∧ ∀ p ∈ g.out, p ∈ g0.out
 μ g := g.n
def ids : AS → List Nat
 | .seq x y => ids x ++ ids y
 | .cond _ x y => ids x ++ ids y
 | .block _ x => ids x
 | .loop id _ x => id :: ids x
 | .lift _ _ _ _ x => ids x
 | .frz _ x => ids x
 | .swp _ _ _ x => ids x
 | _ => []
theorem lkA_map (A : LoopAnn) (id : Nat) : ∀ l : List Nat, id ∈ l → lkA (l.map fun i => (i, A)) id = some A
 | i :: r, h => by
  simp only [List.map_cons, lkA]
  rcases List.mem_cons.1 h with rfl | h
  ·simp
  ·cases hb : i == id
   ·exact lkA_map A id r h
   ·rfl
section code
variable {R : Run} {Γ : List (Nat × Contract)} {N n0 : Nat} {L : List (Nat × LoopAnn)}
theorem xc_rc (hR : RunOk R Γ) : ∀ (ac : AS) (s : SS) (Q : AE → SS → Prop), (∀ id ∈ ids ac, lkA L id = some (LA R N n0)) → oAll (xc R N n0 ac s) (fun p => Q p.1 p.2) → rc Γ L n0 ac Q s
 | .skip, s, Q, hL, h => show Q .normal s from oAll_pair (K := Q) h
 | .reg ops keep, s, Q, hL, h => runLX_ok hR _ _ (oAll_map (p := fun p : AE × SS => Q p.1 p.2) (f := keepX keep) h)
 | .regD ops items keep, s, Q, hL, h => runDX_ok hR _ _ (oAll_map (p := fun p : AE × SS => Q p.1 p.2) (f := keepX keep) h)
 | .regT ops items keep, s, Q, hL, h => runTX_ok hR _ _ (oAll_map (p := fun p : AE × SS => Q p.1 p.2) (f := keepX keep) h)
 | .seq x y, s, Q, hL, h => by
  simp only [rc]
  refine xc_rc hR x s _ (fun id hid => hL id (List.mem_append_left _ hid)) (oAll_mono (oAll_bind h) fun p hp => ?_)
  obtain ⟨e, s'⟩ := p
  cases e with
  | normal => exact xc_rc hR y s' Q (fun id hid => hL id (List.mem_append_right _ hid)) hp
  | exit id => exact oAll_pair (K := Q) hp
  | ret => exact oAll_pair (K := Q) hp
 | .cond c x y, s, Q, hL, h => by
  simp only [xc] at h
  split at h <;> first | exact (oAll_none h).elim | skip
  rename_i hc
  simp only [rc, hc]
  split at h
  ·exact xc_rc hR x s Q (fun id hid => hL id (List.mem_append_left _ hid)) h
  ·exact xc_rc hR y s Q (fun id hid => hL id (List.mem_append_right _ hid)) h
 | .block id x, s, Q, hL, h => by
  simp only [rc]
  refine xc_rc hR x s _ hL (oAll_mono (oAll_map h) fun p hp => ?_)
  obtain ⟨e, s'⟩ := p
  cases e with
  | normal => exact hp
  | ret => exact hp
  | exit id' =>
   simp only [blockE] at hp
   simp only [blockQ]
   split at hp
   ·rename_i hb; rw [hb]; exact hp
   ·rename_i hb; rw [hb]; exact hp
 | .loop id keep x, s, Q, hL, h => by
  simp only [xc] at h
  simp only [rc, hL id List.mem_cons_self]
  obtain ⟨out, ho, hQ⟩ := h
  refine ⟨(⟨canon n0 keep s, N, [canon n0 keep s], out, keep, x⟩ : LG), rfl, ⟨rfl, rfl, ho, List.mem_cons_self, fun p hp => hp⟩, ?_⟩
  rintro ⟨gs, gn, gss, gout, gkeep, gx⟩ ⟨hk, hx, hg, hm, hsub⟩
  simp only at hk hx hg hm hsub
  subst hk hx
  show rc Γ L n0 gx _ gs
  cases gn with
  | zero => cases hg
  | succ n =>
   unfold iterX at hg
   split at hg
   ·cases hm
   ·split at hg <;> first | cases hg | skip
    rename_i l hl
    cases hr : iterX (xc R N n0 gx) n0 gkeep n (nubL ssEq (normals n0 gkeep l)) with
    | none => rw [hr] at hg; cases hg
    | some r =>
     rw [hr] at hg
     simp only [consL, Option.some.injEq] at hg
     subst hg
     have hall : oAll (oBindL (xc R N n0 gx) gss) (fun p => p ∈ l) := ⟨l, hl, fun p hp => hp⟩
     refine xc_rc hR gx gs _ (fun id hid => hL id (List.mem_cons_of_mem _ hid)) (oAll_mono (oAll_bindL hall gs hm) fun p hp => ?_)
     obtain ⟨e, s'⟩ := p
     cases e with
     | normal =>
      refine ⟨(⟨canon n0 gkeep s', n, nubL ssEq (normals n0 gkeep l), r, gkeep, gx⟩ : LG), rfl, ⟨rfl, rfl, hr, ?_, fun p hp => hsub p (List.mem_append_right _ hp)⟩, Nat.lt_succ_self n⟩
      exact nubL_all (fun a b h => ssEq_eq h) _ _ (normals_mem hp)
     | exit id' => exact hQ _ (hsub _ (List.mem_append_left _ (exits_mem (by simp) hp)))
     | ret => exact hQ _ (hsub _ (List.mem_append_left _ (exits_mem (by simp) hp)))
 | .exit id, s, Q, hL, h => show Q (.exit id) s from oAll_pair (K := Q) h
 | .ret, s, Q, hL, h => show Q .ret s from oAll_pair (K := Q) h
 | .lift d k eb t x, s, Q, hL, h => by simp only [rc]; exact xc_rc hR x _ Q hL h
 | .frz d x, s, Q, hL, h => by simp only [rc]; exact xc_rc hR x _ Q hL h
 | .swp i r c x, s, Q, hL, h => by simp only [rc]; exact xc_rc hR x _ Q hL h
 | .no, s, Q, hL, h => (oAll_none h).elim
end code
/-! ### functions -/
inductive FX where
 | code (ac : AS) (rs : List RT) (n : Nat)
 | nat (g : List SV → List SB → Outs (SV × List SB))
def lkX2 : List (Nat × FX) → Nat → Option FX
 | [], _ => none
 | (k, c) :: r, n => bif k == n then some c else lkX2 r n
def finX (n0 : Nat) (rs : List RT) (s : SS) : Outs (SV × List SB) :=
 match resL s rs with
 | some l => match reach s.hp 400 (refsHp n0 s.hp ++ (oneV l).refs) (List.range n0) with
  | idx => some [((oneV l).ren (posOf idx), selHp idx (posOf idx) s.hp)]
 | none => none
def finE (n0 : Nat) (rs : List RT) (p : AE × SS) : Outs (SV × List SB) :=
 match p with
 | (.exit _, _) => none
 | (_, s) => finX n0 rs (settleTs rs s)
def resEq (a b : SV × List SB) : Bool := svEq a.1 b.1 && eqvL sbEq a.2 b.2
theorem resEq_eq (a b : SV × List SB) (h : resEq a b = true) : a = b := by
 simp only [resEq, Bool.and_eq_true] at h
 exact Prod.ext (svEq_eq _ _ h.1) (eqvL_eq (fun x y h => sbEq_eq h) _ _ h.2)
def nubO (o : Outs (SV × List SB)) : Outs (SV × List SB) :=
 match o with
 | some l => some (nubL resEq l)
 | none => none
theorem nubO_all {o : Outs (SV × List SB)} {p : SV × List SB → Prop} (h : oAll (nubO o) p) : oAll o p := by
 unfold nubO at h
 split at h <;> first | exact (oAll_none h).elim | skip
 obtain ⟨l, hl, hp⟩ := h
 cases hl
 exact ⟨_, rfl, fun x hx => hp x (nubL_all resEq_eq _ x hx)⟩
def runF (T : List (Nat × FX)) (N : Nat) : Nat → Run
 | 0, _, _, _ => none
 | n + 1, f, args, hp => match lkX2 T f with
  | some (.code ac rs k) => match Nat.ble args.length k with
   | true => nubO (oBind (xc (runF T N n) N hp.length ac ⟨frArgs 0 args, hp⟩) (finE hp.length rs))
   | false => none
  | some (.nat g) => g args hp
  | none => none
def CX (R : Run) (f : Nat) : Contract := fun args hp K => oAll (R f args hp) (fun p => K p.1 p.2)
theorem finE_ok {n0 : Nat} {rs : List RT} {K : SV → List SB → Prop} {p : AE × SS} (h : oAll (finE n0 rs p) (fun q => K q.1 q.2)) : fin n0 rs K p.1 p.2 := by
 have key : ∀ s : SS, oAll (finX n0 rs s) (fun q => K q.1 q.2) → finS n0 rs s K := by
  intro s h
  unfold finX at h
  split at h <;> first | exact (oAll_none h).elim | skip
  rename_i hr
  simp only [finS, hr, finO, finR, finI]
  exact oAll_pair h
 obtain ⟨e, s⟩ := p
 cases e with
 | normal => exact key _ h
 | ret => exact key _ h
 | exit id => exact (oAll_none h).elim
inductive TOk (P : Program) : List (Nat × FX) → Prop where
 | nil : TOk P []
 | code {f : Nat} {ac : AS} {rs : List RT} {n : Nat} {T : List (Nat × FX)} (h : okF P f ac rs n = true) (r : TOk P T) : TOk P ((f, .code ac rs n) :: T)
 | nat {f : Nat} {g : List SV → List SB → Outs (SV × List SB)} {T : List (Nat × FX)} (h : Sound P f (fun args hp K => oAll (g args hp) (fun p => K p.1 p.2))) (hc : Callable P f) (r : TOk P T) : TOk P ((f, .nat g) :: T)
def FX.ok (P : Program) (f : Nat) : FX → Prop
 | .code ac rs n => okF P f ac rs n = true
 | .nat g => Sound P f (fun args hp K => oAll (g args hp) (fun p => K p.1 p.2))
theorem TOk.at {P : Program} {T : List (Nat × FX)} (h : TOk P T) {f : Nat} {x : FX} (hx : lkX2 T f = some x) :
  Callable P f ∧ x.ok P f := by
 induction h with
 | nil => cases hx
 | @code g ac rs n T h r ih =>
  simp only [lkX2] at hx
  cases hf : g == f <;> rw [hf] at hx
  ·exact ih hx
  ·cases hx; have := beq_iff_eq.1 hf; subst this; exact ⟨callable_of_okF h, h⟩
 | @nat g k T h hc r ih =>
  simp only [lkX2] at hx
  cases hf : g == f <;> rw [hf] at hx
  ·exact ih hx
  ·cases hx; have := beq_iff_eq.1 hf; subst this; exact ⟨hc, h⟩
theorem lkC_map {R : Run} {f : Nat} : ∀ {T : List (Nat × FX)} {x : FX}, lkX2 T f = some x → lkC (T.map fun p => (p.1, CX R p.1)) f = some (CX R f)
 | (k, c) :: r, x, h => by
  simp only [lkX2] at h
  simp only [List.map_cons, lkC]
  cases hf : k == f <;> rw [hf] at h
  ·exact lkC_map h
  ·have := beq_iff_eq.1 hf; subst this; rfl
theorem lkC_map' {R : Run} {f : Nat} {C : Contract} : ∀ {T : List (Nat × FX)}, lkC (T.map fun p => (p.1, CX R p.1)) f = some C → C = CX R f ∧ ∃ x, lkX2 T f = some x
 | [], h => by cases h
 | (k, c) :: r, h => by
  simp only [List.map_cons, lkC] at h
  simp only [lkX2]
  cases hf : k == f <;> rw [hf] at h
  ·exact lkC_map' h
  ·have := beq_iff_eq.1 hf; subst this; cases h; exact ⟨rfl, _, rfl⟩
theorem runF_sound {P : Program} {T : List (Nat × FX)} (hT : TOk P T) (N : Nat) : ∀ (n f : Nat), Sound P f (CX (runF T N n) f)
 | 0, f => fun args hp K h => (oAll_none (by simpa only [CX, runF] using h)).elim
 | n + 1, f => by
  cases hx : lkX2 T f with
  | none => intro args hp K h; simp only [CX, runF, hx] at h; exact (oAll_none h).elim
  | some x =>
   cases x with
   | nat g =>
    have h1 := (hT.at hx).2
    intro args hp K h
    simp only [CX, runF, hx] at h
    exact h1 args hp K h
   | code ac rs k =>
    have h1 := (hT.at hx).2
    have hΓ : GOk P (T.map fun p => (p.1, CX (runF T N n) p.1)) := by
     intro g C hg
     obtain ⟨rfl, y, hy⟩ := lkC_map' hg
     exact ⟨runF_sound hT N n g, (hT.at hy).1⟩
    have hR : RunOk (runF T N n) (T.map fun p => (p.1, CX (runF T N n) p.1)) := by
     intro g args hp K h
     cases hy : lkX2 T g with
     | some y => exact ⟨_, lkC_map hy, h⟩
     | none =>
      exfalso
      cases n with
      | zero => exact oAll_none (by simpa only [runF] using h)
      | succ n => simp only [runF, hy] at h; exact oAll_none h
    refine sound_of_okF h1 hΓ ?_
    intro args hp K h
    simp only [CX, runF, hx] at h
    split at h <;> first | exact (oAll_none h).elim | skip
    rename_i hb
    refine ⟨Nat.le_of_ble_eq_true hb, (ids ac).map fun i => (i, LA (runF T N n) N hp.length), ?_⟩
    exact xc_rc hR ac _ _ (fun id hid => lkA_map _ id _ hid) (oAll_mono (oAll_bind (nubO_all h)) fun p hp' => finE_ok hp')
theorem run_told {P : Program} {T : List (Nat × FX)} (hT : TOk P T) {N n f : Nat} {args : List SV} {hp : List SB} {l : List (SV × List SB)} (h : runF T N n f args hp = some l) : Sound P f (fun a h K => a = args ∧ h = hp ∧ ∀ p ∈ l, K p.1 p.2) := by
 intro a hp' K hc
 obtain ⟨rfl, rfl, hk⟩ := hc
 exact runF_sound hT N n f a hp' K ⟨l, h, hk⟩
end Go.V
namespace Go.V
open Go.Proofs
open Go.Maps Go.Sort Go.Shelf
set_option maxRecDepth 100000
set_option linter.unusedSimpArgs false
set_option linter.unnecessarySimpa false
set_option linter.unusedVariables false
def nSortF : List SV → List SB → Outs (SV × List SB)
 | [.fn f [.ptr 0 0], .fn g []], [.struct [.own 1], .row mv eb (.pair .str (.pair (.sl 1 .byte) .bool)) [x]] => if f = 63 ∧ g = 39 ∧ eb = 48 then
   some [(.own 2, [.struct [.own 1], .row mv eb (.pair .str (.pair (.sl 1 .byte) .bool)) [x], .row true eb (.pair .str (.pair (.sl 1 .byte) .bool)) [x]])] else none
 | _, _ => none
theorem slv_slice {α : Type} {w : World} {F : Nat → Prop} {R : α → List Value → Prop} {eb sz : Nat} {xs : List α} {v : Value} (h : slv w F R eb sz xs v) : ∃ a n c, v = .slice a n c := by
 rcases h with ⟨_, a, c, rfl, _⟩ | ⟨b, off, cap, cur, E, fr, cs, rfl, _⟩
 ·exact ⟨_, _, _, rfl⟩
 ·exact ⟨_, _, _, rfl⟩
theorem perm_one {z : ChV} {d : Array ChV} (h : PermIn 0 1 #[z] d) : d = #[z] := by
 obtain ⟨h1, _, h3⟩ := h
 have hs : d.size = 1 := h1
 obtain ⟨y, rfl⟩ : ∃ y, d = #[y] := by
  match d, hs with
  | ⟨[y]⟩, _ => exact ⟨y, rfl⟩
 have h4 : [y].Perm [z] := h3
 rw [List.singleton_perm_singleton] at h4
 rw [h4]
theorem nSortF_ok : Sound Tryz.prog 37 (fun args hp K => oAll (nSortF args hp) (fun p => K p.1 p.2)) := by
 intro args hp K h E vs hs hg hd
 unfold nSortF at h
 split at h
 ·rename_i f g mv eb x
  split at h
  ·rename_i hfg
   obtain ⟨rfl, rfl, rfl⟩ := hfg
   have h := oAll_pair (K := K) h
   simp only [denL, den, fnV, if_pos (show 63 < 1000000 by decide), if_pos (show 39 < 1000000 by decide)] at hd
   obtain ⟨v, r, rfl, ⟨cs, rfl, v2, r2, hcs, ⟨hN, B, hB, rfl⟩, rfl⟩, v3, r3, rfl, ⟨cs3, rfl, hcs3⟩, rfl⟩ := hd
   have hcs' : cs = #[.pointer (some ⟨B, 0, none⟩)] := by
    apply Array.ext'; rw [hcs]
   have hcs3' : cs3 = #[] := by
    apply Array.ext'; rw [hcs3]
   subst hcs' hcs3'
   obtain ⟨B', cur, T, fr, q1, q2, q3, q4⟩ := hs.ok 0 _ rfl
   rw [hB] at q1
   cases q1
   rw [denC_cons rfl] at q4
   obtain ⟨v, c2, q5, q6, q7⟩ := q4
   simp only [denC] at q7
   subst q7
   simp only [den] at q6
   obtain ⟨_, hv1, _⟩ := q6
   subst hv1
   rcases hs.ok 1 _ rfl with ⟨_, _, e0⟩ | ⟨b, off, cap, cur1, T1, fr1, cs1, w1, w2, w3, w4, w5, w6, w7, w8, w9, w10⟩
   ·cases e0
   have w10' := w10
   simp only [rdL, rd] at w10
   obtain ⟨c1, c2, e1, ⟨d1, d2, rfl, ⟨rfl, hsz⟩, g1, g2, rfl, ⟨v, rfl, hslv⟩, rfl⟩, rfl⟩ := w10
   obtain ⟨pa, ln, cp, rfl⟩ := slv_slice hslv
   have e2 : (cur1.toList.drop off).take 3 = [.string x.1, .slice pa ln cp, .bool x.2.2] := w9.trans e1
   have hlt : B < E.w.heap.size := (Array.getElem?_eq_some_iff.1 q2).1
   have hltb : b < E.w.heap.size := (Array.getElem?_eq_some_iff.1 w3).1
   have hcell : E.w.cell? ⟨B, 0, none⟩ = some (.slice (some ⟨b, off, none⟩) 1 cap) := by
    simp only [World.cell?, q2]
    have : cur[0]? = some (.slice (some ⟨b, off, none⟩) 1 cap) := by rw [← Array.getElem?_toList, q5, w1]; rfl
    simp [this]
   have hget : ∀ j u, j < 3 → ([.string x.1, .slice pa ln cp, .bool x.2.2] : List Value)[j]? = some u → E.w.cell? ⟨b, off + j, none⟩ = some u := by
    intro j u hj hu
    rw [← e2, List.getElem?_take_of_lt hj, List.getElem?_drop, Array.getElem?_toList] at hu
    simp [World.cell?, w3, hu]
   have hch : ChAt E.w b off [⟨x.1, pa, ln, cp, x.2.2⟩] := by
    intro j hj
    have : j = 0 := by simpa using hj
    subst this
    exact ⟨by simpa using hget 0 _ (by omega) rfl, by simpa using hget 1 _ (by omega) rfl, by simpa using hget 2 _ (by omega) rfl⟩
   refine (sortF37 E.w B b off cap [⟨x.1, pa, ln, cp, x.2.2⟩] (by simp [maxLen]) (by simp) (by simp) hlt hltb hcell hch).mono ?_
   rintro e w' ⟨v, d, rfl, ⟨hp, _⟩, hrow, hnil, hbelow⟩
   have hd1 := perm_one hp
   subst hd1
   have hc : Chg E.w w' (fun _ => False) := ⟨hbelow.os, hbelow.tape, hbelow.output, hbelow.size, fun b hb _ => hbelow.block b hb⟩
   have go : ∀ (rv' : RV), rv'.val = v → (∀ b, rv'.blk = some b → E.w.heap.size ≤ b ∧ b < w'.heap.size) → SBok { E with N := E.N + 1, ρ := upR E.ρ E.N rv', w := w' } rv' (.row true 48 (.pair .str (.pair (.sl 1 .byte) .bool)) [x]) →
     ∃ r hp' E' v', Ending.returned v = .returned v' ∧ E'.w = w' ∧ K r hp' ∧ HS hp' E' ∧ den E' r v' ∧ Ev [.struct [.own 1], .row mv 48 (.pair .str (.pair (.sl 1 .byte) .bool)) [x]] E hp' E' ∧ Id 2 E.ρ hp' E'.ρ := by
    intro rv' hv hn ho
    have hp := hs.push hc hn ho
    refine ⟨.own 2, _, _, v, rfl, rfl, h, hp.1, ?_, Ev.push hs hc (fun b hb => (hn b hb).1), ?_⟩
    ·simp only [den]
     have hN2 : E.N = 2 := hs.n
     refine ⟨by show 2 < E.N + 1; omega, ?_, ?_⟩
     ·show v = (upR E.ρ E.N rv' 2).val
      rw [← hN2, upd_same, hv]
     ·rcases hrow.2 with ⟨rfl, _⟩ | ⟨g, cap, cur, rfl, _⟩ <;> rfl
    ·have hid : Id 2 E.ρ [.struct [.own 1], .row mv 48 (.pair .str (.pair (.sl 1 .byte) .bool)) [x]] E.ρ := ⟨Nat.le_refl _, fun i sb _ hsb => by
      match i, hsb with
      | 0, hsb => cases hsb; rfl
      | 1, hsb => cases hsb; cases mv <;> first | rfl | trivial⟩
     exact hid.push hs.n
   rcases hrow.2 with ⟨hv, hz⟩ | ⟨gb, cap2, cur2, hv, hg2, hgb, r1, r2, r3, r4⟩
   ·exact absurd hv hnil
   ·refine go ⟨some gb, v⟩ rfl (fun b hb => by cases hb; exact ⟨hg2, (Array.getElem?_eq_some_iff.1 hgb).1⟩) (.inr ⟨gb, 0, cap2, cur2, 45, (0, 0), _, hv, rfl, hgb, ⟨.inl rfl, by simp⟩, r1, r2, ?_, by simp, rfl, ?_⟩)
    ·rw [r3]; simp [Ty.size]
    ·have e : (cur2.toList.drop 0).take ([x].length * (Ty.pair .str (.pair (.sl 1 .byte) .bool)).size) = [.string x.1, .slice pa ln cp, .bool x.2.2] := by
      rw [List.drop_zero]
      exact r4
     rw [e]
     have hm := rdL_mono (fun y c hy => rd_mono (F' := E.Fz) (w' := w') (fun _ hb => hb) (fun b hb => hbelow.block b (hs.old b (.inl hb))) (.pair .str (.pair (.sl 1 .byte) .bool)) y c hy) _ _ w10'
     rw [e1] at hm
     exact hm
  ·exact (oAll_none h).elim
 ·exact (oAll_none h).elim
theorem nSortF_c : Callable Tryz.prog 37 := ⟨_, Tryz.func37, rfl, by decide⟩
end Go.V
namespace Go.V
open Go.Proofs
open Go.Maps Go.Sort Go.Shelf
set_option maxRecDepth 100000
set_option linter.unusedSimpArgs false
set_option linter.unnecessarySimpa false
set_option linter.unusedVariables false
/-! ### sorted keys, for a run at closed values -/
def insI (x : Int) : List Int → List Int
 | [] => [x]
 | y :: r => if leI x y then x :: y :: r else y :: insI x r
def sortI (l : List Int) : List Int := l.foldr insI []
theorem insI_perm (x : Int) : ∀ l, (insI x l).Perm (x :: l)
 | [] => .refl _
 | y :: r => by
  unfold insI
  split
  ·exact .refl _
  ·exact ((insI_perm x r).cons y).trans (.swap x y r)
theorem sortI_perm : ∀ l, (sortI l).Perm l
 | [] => .refl _
 | x :: r => (insI_perm x (sortI r)).trans ((sortI_perm r).cons x)
theorem leI_total' (x y : Int) : leI x y = true ∨ leI y x = true := by
 simp only [leI, decide_eq_true_eq]; omega
theorem leI_trans' {x y z : Int} (h1 : leI x y = true) (h2 : leI y z = true) : leI x z = true := by
 simp only [leI, decide_eq_true_eq] at *; omega
theorem insI_sorted (x : Int) : ∀ l, l.Pairwise (fun a b => leI a b = true) → (insI x l).Pairwise (fun a b => leI a b = true)
 | [], _ => by simp [insI]
 | y :: r, h => by
  unfold insI
  rw [List.pairwise_cons] at h
  split
  ·rename_i hxy
   rw [List.pairwise_cons]
   refine ⟨fun z hz => ?_, List.pairwise_cons.2 h⟩
   rcases List.mem_cons.1 hz with rfl | hz
   ·exact hxy
   ·exact leI_trans' hxy (h.1 z hz)
  ·rename_i hxy
   rw [List.pairwise_cons]
   refine ⟨fun z hz => ?_, insI_sorted x r h.2⟩
   rcases List.mem_cons.1 ((insI_perm x r).mem_iff.1 hz) with rfl | hz
   ·exact (leI_total' z y).resolve_left hxy
   ·exact h.1 z hz
theorem sortI_sorted : ∀ l, (sortI l).Pairwise (fun a b => leI a b = true)
 | [] => .nil
 | x :: r => insI_sorted x _ (sortI_sorted r)
theorem sortI_eq (l : List Int) : l.mergeSort leI = sortI l := by
 rw [← mergeSort_of_perm_i (sortI_perm l)]
 exact List.mergeSort_of_pairwise (sortI_sorted l)
def nSortI : List SV → List SB → Outs (SV × List SB)
 | [.fn f [.ptr 0 0]], [.struct [.mp 1], .map va (.int .i64) vt m] => if (f = 71 ∨ f = 75 ∨ f = 72) ∧ (m : List (Int × vt.den)).length ≤ 1000000 then
   some [(.own 2, [.struct [.mp 1], .map va (.int .i64) vt m, .row true 8 (.int .i64) (sortI (keysI m))])] else none
 | _, _ => none
theorem nSortI_ok : Sound Tryz.prog 48 (fun args hp K => oAll (nSortI args hp) (fun p => K p.1 p.2)) := by
 intro args hp K h
 refine s48 args hp K ?_
 unfold nSortI at h
 split at h
 ·split at h
  ·rename_i f va vt m hm
   refine ⟨hm.1, hm.2, ?_⟩
   unfold srtI
   rw [sortI_eq]
   exact oAll_pair (K := K) h
  ·exact (oAll_none h).elim
 ·exact (oAll_none h).elim
theorem nSortI_c : Callable Tryz.prog 48 := ⟨_, Tryz.func48, rfl, by decide⟩
def nCmp : List SV → List SB → Outs (SV × List SB)
 | [.str a, .str b], [] => some [(.int .i64 (Lib.compareBytes a.data.toList b.data.toList), [])]
 | _, _ => none
theorem cmpB_in : ∀ a b : List UInt8, -1 ≤ Lib.compareBytes a b ∧ Lib.compareBytes a b ≤ 1
 | [], [] => by simp [Lib.compareBytes]
 | [], _ :: _ => by simp [Lib.compareBytes]
 | _ :: _, [] => by simp [Lib.compareBytes]
 | a :: xs, b :: ys => by
  unfold Lib.compareBytes
  have := cmpB_in xs ys
  split
  ·omega
  ·split
   ·omega
   ·exact this
theorem nCmp_ok : Sound Tryz.prog 40 (fun args hp K => oAll (nCmp args hp) (fun p => K p.1 p.2)) := by
 intro args hp K h E vs hs hg hd
 unfold nCmp at h
 split at h
 ·rename_i a b
  have h := oAll_pair (K := K) h
  simp only [denL, den] at hd
  obtain ⟨v, r, rfl, ⟨rfl, _⟩, v2, r2, rfl, ⟨rfl, _⟩, rfl⟩ := hd
  refine (Any.strings_Compare Tryz.cmpS a b E.w).mono ?_
  rintro e w' ⟨rfl, rfl⟩
  have hr := cmpB_in a.data.toList b.data.toList
  exact ⟨_, _, E, _, rfl, rfl, h, hs, by simp only [den]; exact ⟨trivial, by simp only [IntKind.min, IntKind.max, IntKind.signed, IntKind.bits]; constructor <;> simp <;> omega⟩, Ev.refl _ _, Id.refl _ _⟩
 ·exact (oAll_none h).elim
theorem nCmp_c : Callable Tryz.prog 40 := ⟨_, Tryz.func40, rfl, by decide⟩
end Go.V
