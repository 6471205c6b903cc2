/- Regions whose order is open. -/
import Derived.Test.YthfkoeoaehkoaaaGreatDoorVD
namespace Go.V
set_option linter.unusedSimpArgs false
set_option linter.unnecessarySimpa false
set_option linter.unusedVariables false
inductive DI where
 | q (i : Nat)
 | e (i : Nat) (pend : List Nat)
def DI.ix : DI → Nat
 | .q i => i
 | .e i _ => i
def atA (al : List AOper) (i : Nat) : AOper := al.getD i ⟨none, .mv (.c .junk), none⟩
def eqK (s : SS) (d : Option Nat) (v : SV) : Prop :=
 match d with
 | some d => lkF s.fr d = v
 | none => False
def chk1 (o : AOper) (s : SS) : Prop :=
 match o.guard with
 | none => evC o.op s (eqK s o.dst)
 | some (slot, want) => match lkF s.fr slot with
  | .bool b => sw (b == want) (evC o.op s (eqK s o.dst)) (eqK s o.dst (.tup []))
  | .tup [] => eqK s o.dst (.tup [])
  | _ => False
def chkL (al : List AOper) : List Nat → SS → Prop
 | [], _ => True
 | i :: r, s => chk1 (atA al i) s ∧ chkL al r s
def runE (Γ : List (Nat × Contract)) (o : AOper) (s : SS) (K1 K2 : SS → Prop) : Prop :=
 match o.guard with
 | none => step Γ o s K1
 | some (slot, want) => match lkF s.fr slot with
  | .bool b => sw (b == want) (step Γ o (s.put (some slot) (.bool want)) K1) (K2 ((s.put (some slot) (.bool (!want))).put o.dst (.tup [])))
  | .tup [] => K2 (s.put o.dst (.tup []))
  | _ => False
def andK (A K : SS → Prop) (s : SS) : Prop := A s ∧ K s
def runD (Γ : List (Nat × Contract)) (al : List AOper) : List DI → SS → (SS → Prop) → Prop
 | [], s, K => K s
 | .q i :: r, s, K => runE Γ (atA al i) s (fun s' => runD Γ al r s' K) (fun s' => runD Γ al r s' K)
 | .e i pend :: r, s, K => runE Γ (atA al i) s (andK (chkL al pend) (fun s' => runD Γ al r s' K)) (fun s' => runD Γ al r s' K)
/-! ### the check -/
def bindsAny (e : Edge) : Bool := Region.binds .any e
def deps (ops : Array Oper) (i : Nat) : List Nat :=
 match ops[i]? with
 | some o => (o.after.toList.filter bindsAny).map Edge.on
 | none => []
def clos (ops : Array Oper) : Nat → List Nat → List Nat → List Nat
 | 0, _, acc => acc
 | _ + 1, [], acc => acc
 | n + 1, i :: todo, acc => if acc.contains i then clos ops n todo acc else clos ops n (deps ops i ++ todo) (i :: acc)
def dstOf (ops : Array Oper) (i : Nat) : Option Nat := (ops[i]?).bind (·.dst)
def rdsB (ops : Array Oper) (i j : Nat) : Bool :=
 match ops[i]? with
 | some o => match dstOf ops j with
  | some t => (o.looksAt ops).contains t
  | none => false
 | none => false
def Anti (ops : Array Oper) (i j : Nat) : Prop := rdsB ops i j = true ∧ j ∉ deps ops i
def okReads (ops : Array Oper) (n i : Nat) : Bool :=
 (List.range n).all fun j => !rdsB ops i j || (deps ops i).contains j || (i != j && (deps ops j).contains i)
theorem rdsB_spec {ops : Array Oper} {i j t : Nat} {o : Oper} (hi : ops[i]? = some o) (ht : t ∈ o.looksAt ops) (hj : dstOf ops j = some t) : rdsB ops i j = true := by
 unfold rdsB
 rw [hi]
 simp only [hj]
 rw [List.contains_eq_mem]
 simpa using ht
def okDst (ops : Array Oper) (n : Nat) : Bool :=
 (List.range n).all fun i => (List.range n).all fun j => i == j || (match dstOf ops i with
  | some d => dstOf ops j != some d
  | none => true)
def okPend (ops : Array Oper) : List Nat → Bool
 | [] => true
 | i :: r => !rdsB ops i i && r.all (fun j => !rdsB ops i j && i != j) && okPend ops r
def isQ (al : List AOper) (i : Nat) : Bool := (atA al i).op.quiet && (atA al i).dst.isSome
def okItems (ops : Array Oper) (al : List AOper) (n : Nat) : List Nat → List Nat → List DI → Bool
 | V, ef, [] => V.length == n && (List.range n).all V.contains
 | V, ef, .q i :: r => isQ al i && decide (i < n) && !V.contains i && (deps ops i).all V.contains && ((List.range n).all fun k => !rdsB ops k i || (deps ops k).contains i || ef.contains k) && okItems ops al n (i :: V) ef r
 | V, ef, .e i pend :: r => decide (i < n) && !V.contains i && (deps ops i).all V.contains &&
  ((List.range n).all fun j => V.contains j || j == i || (deps ops j).any fun k => !V.contains k) &&
  okPend ops pend && pend.all (fun j => V.contains j && isQ al j) &&
  (V.all fun j => ef.contains j || pend.contains j || (clos ops 4000 (deps ops i) []).contains j) &&
  okItems ops al n (i :: V) (i :: V.filter (fun j => !pend.contains j)) r
def okDr (P : Program) (nt : Nat) (ops : Array Oper) (al : List AOper) (items : List DI) : Bool :=
 P.follows .mixedOrders && okL P nt ops ops.toList al && Region.noSelect ops && okDst ops ops.size && (List.range ops.size).all (okReads ops ops.size) && okItems ops al ops.size [] [] items
theorem clos_spec (ops : Array Oper) (A : Nat → Prop) (hA : ∀ i, A i → ∀ j ∈ deps ops i, A j) : ∀ (n : Nat) (todo acc : List Nat), (∀ i ∈ todo, A i) → (∀ i ∈ acc, A i) → ∀ i ∈ clos ops n todo acc, A i
 | 0, _, acc, _, h2 => h2
 | _ + 1, [], acc, _, h2 => h2
 | n + 1, i :: todo, acc, h1, h2 => by
  simp only [clos]
  split
  ·exact clos_spec ops A hA n todo acc (fun j hj => h1 j (List.mem_cons_of_mem _ hj)) h2
  ·refine clos_spec ops A hA n _ _ (fun j hj => ?_) (fun j hj => ?_)
   ·rcases List.mem_append.1 hj with hj | hj
    ·exact hA i (h1 i (by simp)) j hj
    ·exact h1 j (List.mem_cons_of_mem _ hj)
   ·rcases List.mem_cons.1 hj with rfl | hj
    ·exact h1 j (by simp)
    ·exact h2 j hj
section drawn
variable {P : Program} {S : Start} {Γ : List (Nat × Contract)} {ops : Array Oper} {al : List AOper} {Q : Exit → Act → World → Prop}
def Yl (P : Program) (ops : Array Oper) (o : Oper) (b : Act) (w : World) : Prop :=
 ∃ v, (∀ d, o.dst = some d → b.tmps[d]? = some v) ∧
  ((Region.wanted o (yielded ops b.tmps) = true ∧ (execOp b.eval o).run P w = .ok (.value v) w) ∨ (Region.wanted o (yielded ops b.tmps) = false ∧ v = undef))
theorem same_exec {o : Oper} {a b : Act} (hs : ∀ cs bb, o.op ≠ .select cs bb) (h : ∀ t ∈ o.looksAt ops, a.tmps[t]? = b.tmps[t]?) : execOp a.eval o = execOp b.eval o ∧ Region.wanted o (yielded ops a.tmps) = Region.wanted o (yielded ops b.tmps) := by
 refine ⟨execOp_congr o hs fun x hx => ?_, ?_⟩
 ·cases x with
  | tmp t =>
   have := h t (List.mem_append_left _ (List.mem_filterMap.2 ⟨.tmp t, by simpa using hx, rfl⟩))
   simp only [Act.eval, Array.getD_eq_getD_getElem?, this]
  | _ => rfl
 ·unfold Region.wanted
  cases hg : o.guard with
  | none => rfl
  | some gw =>
   obtain ⟨g, want⟩ := gw
   have hy : yielded ops a.tmps g = yielded ops b.tmps g := by
    unfold yielded
    cases ht : (ops[g]?).bind (·.dst) with
    | none => rfl
    | some t =>
     have := h t (by simp [Oper.looksAt, hg, ht])
     simp [this]
   simp only [hy]
theorem Yl.congr {o : Oper} {a b : Act} {w : World} (hs : ∀ cs bb, o.op ≠ .select cs bb) (h : ∀ t ∈ o.looksAt ops, a.tmps[t]? = b.tmps[t]?) (hd : ∀ d, o.dst = some d → a.tmps[d]? = b.tmps[d]?) (hy : Yl P ops o a w) : Yl P ops o b w := by
 obtain ⟨v, h1, h2⟩ := hy
 obtain ⟨e1, e2⟩ := same_exec hs h
 rw [e1, e2] at h2
 exact ⟨v, fun d hd' => by rw [← hd d hd']; exact h1 d hd', h2⟩
theorem put_same {a b : Act} (hsz : a.tmps.size = b.tmps.size) {d : Option Tmp} {u v : Value} (h : b.put d u = b.put d v) : a.put d u = a.put d v := by
 cases d with
 | none => rfl
 | some d =>
  simp only [Act.put, Act.mk.injEq, and_true] at h ⊢
  by_cases hd : d < b.tmps.size
  ·have := congrArg (fun l => l[d]?) h
   simp only [Array.getElem?_setIfInBounds_self_of_lt hd, Option.some.injEq] at this
   rw [this]
  ·have hd' : b.tmps.size ≤ d := Nat.le_of_not_lt hd
   rw [Array.setIfInBounds_eq_of_size_le (hsz ▸ hd'), Array.setIfInBounds_eq_of_size_le (hsz ▸ hd')]
theorem wp_like {o : Oper} {a b : Act} {w : World} {next : Act → World → Prop} (he : execOp a.eval o = execOp b.eval o) (hsz : a.tmps.size = b.tmps.size) (hQ : ∀ c x w, ¬ Q (.panic c) x w)
  (h : o.wp P b w (fun x w' => ∃ v, x = b.put o.dst v ∧ next (a.put o.dst v) w') Q) : o.wp P a w next Q := by
 unfold Oper.wp at *
 rw [he]
 have hdef : ∀ (d : Deferred) (u v : Value), ({ b with defers := d :: b.defers } : Act).put o.dst u ≠ b.put o.dst v := by
  intro d u v e
  have := congrArg Act.defers e
  cases hdst : o.dst <;> simp [Act.put, hdst] at this
 have val : ∀ (u : Value) (w' : World), (∃ v, b.put o.dst u = b.put o.dst v ∧ next (a.put o.dst v) w') → next (a.put o.dst u) w' := by
  rintro u w' ⟨v, e, hn⟩
  rw [put_same hsz e]; exact hn
 generalize (execOp b.eval o).run P w = r at *
 cases r with
 | ok n w' =>
  cases n <;> simp only [Oper.upon] at h ⊢
  case value u => exact val _ _ h
  case skip => exact val _ _ h
  case defer d =>
   obtain ⟨v, e, _⟩ := h
   exact absurd e (hdef d _ v)
  case enter f args =>
   refine Calls.mono h fun e w'' he => ?_
   cases e with
   | returned u => exact val _ _ he
   | panicked c => exact absurd he (hQ _ _ _)
   | outgrown => exact he
  case row row args => exact Rows.mono h fun u w'' he => val _ _ he
 | halt x w' =>
  cases x <;> simp only [Oper.upon] at h ⊢
  all_goals first | exact h | exact absurd h (hQ _ _ _)
theorem getD_set_tt {l : Array Bool} {i k : Nat} (h : l.getD k true = true) : (l.setIfInBounds i true).getD k true = true := by
 by_cases hk : k = i
 ·subst hk
  rcases Nat.lt_or_ge k l.size with h' | h'
  ·rw [Array.getD_eq_getD_getElem?, Array.getElem?_setIfInBounds_self_of_lt h']; rfl
  ·rw [Array.getD_eq_getD_getElem?, Array.getElem?_eq_none (by rw [Array.size_setIfInBounds]; exact h')]; rfl
 ·rw [getD_set_ne true (Ne.symm hk)]; exact h
structure Virt (P : Program) (ops : Array Oper) (V : List Nat) (listed : Array Bool) (a b : Act) (w : World) : Prop where
 defers : a.defers = []
 size : a.tmps.size = b.tmps.size
 same : ∀ k, (∀ i ∈ V, listed.getD i true = false → dstOf ops i ≠ some k) → a.tmps[k]? = b.tmps[k]?
 ahead : ∀ i ∈ V, listed.getD i true = false → ∀ o, ops[i]? = some o → o.dst.isSome = true ∧ Yl P ops o b w
 sub : ∀ i, i < ops.size → listed.getD i true = true → i ∈ V
 lsz : listed.size = ops.size
 down : ∀ i, i < ops.size → listed.getD i true = true → ∀ j ∈ deps ops i, listed.getD j false = true
 anti : ∀ i j, j ∈ V → listed.getD j true = false → Anti ops i j → listed.getD i true = true
theorem dst_lt {j t : Nat} (hj : dstOf ops j = some t) : j < ops.size := by
 unfold dstOf at hj
 cases ho : ops[j]? with
 | none => rw [ho] at hj; cases hj
 | some o' => exact (Array.getElem?_eq_some_iff.1 ho).1
theorem reads_spec {i : Nat} {o : Oper} (h : okReads ops ops.size i = true) (hi : ops[i]? = some o) : ∀ t ∈ o.looksAt ops, ∀ j, dstOf ops j = some t → j ∈ deps ops i ∨ (i ≠ j ∧ i ∈ deps ops j ∧ Anti ops i j) := by
 unfold okReads at h
 intro t ht j hj
 have hr := rdsB_spec hi ht hj
 have h2 := List.all_eq_true.1 h j (List.mem_range.2 (dst_lt hj))
 rw [hr] at h2
 by_cases hd : j ∈ deps ops i
 ·exact .inl hd
 ·right
  simp only [Bool.not_true, Bool.false_or, Bool.or_eq_true, Bool.and_eq_true, bne_iff_ne, ne_eq, List.contains_eq_mem, decide_eq_true_eq] at h2
  exact ⟨(h2.resolve_left hd).1, (h2.resolve_left hd).2, hr, hd⟩
theorem mem_deps {i j : Nat} {o : Oper} (hi : ops[i]? = some o) : j ∈ deps ops i ↔ ∃ e ∈ o.after, Region.binds .any e = true ∧ e.on = j := by
 unfold deps
 rw [hi]
 simp [bindsAny, List.mem_map, List.mem_filter, and_assoc]
theorem ready_like {V : List Nat} {listed : Array Bool} {a b : Act} {w : World} (hv : Virt P ops V listed a b w) (hsel : Region.noSelect ops = true) {i : Nat} {o : Oper} (hr : okReads ops ops.size i = true) (hi : ops[i]? = some o) (hready : i ∈ Region.ready .any ops listed) :
  execOp a.eval o = execOp b.eval o ∧ Region.wanted o (yielded ops a.tmps) = Region.wanted o (yielded ops b.tmps) := by
 refine same_exec (fun cs bb => Region.noSelect_spec hsel i o cs bb hi) (fun t ht => hv.same t (fun j hj hjl hjd => ?_))
 obtain ⟨hun, o', ho', hall⟩ := mem_ready.1 hready
 rw [hi] at ho'; cases ho'
 have := (reads_spec hr hi t ht j hjd).resolve_right (fun h => by
  have := hv.anti i j hj hjl h.2.2
  rw [this] at hun; cases hun)
 obtain ⟨e, he, hb, rfl⟩ := (mem_deps hi).1 this
 have h1 := hall e he hb
 have hlt : e.on < ops.size := by
  unfold dstOf at hjd
  cases ho : ops[e.on]? with
  | none => rw [ho] at hjd; cases hjd
  | some o' => exact (Array.getElem?_eq_some_iff.1 ho).1
 rw [Array.getD_eq_getD_getElem?, Array.getElem?_eq_getElem (by rw [hv.lsz]; exact hlt)] at h1 hjl
 simp at h1 hjl
 rw [h1] at hjl; cases hjl
theorem virt_real {V : List Nat} {listed : Array Bool} {a b : Act} {w : World} (hv : Virt P ops V listed a b w) (hsel : Region.noSelect ops = true) {i : Nat} {o : Oper} (hr : okReads ops ops.size i = true) (hi : ops[i]? = some o)
  (hready : i ∈ Region.ready .any ops listed) (hiV : i ∈ V) {K : Act → World → Prop} (hk : ∀ v, Virt P ops V (listed.setIfInBounds i true) (a.put o.dst v) b w → K (a.put o.dst v) w) : wpOp P ops Q i K a w := by
 obtain ⟨he, hw⟩ := ready_like hv hsel hr hi hready
 have hlt : i < ops.size := (Array.getElem?_eq_some_iff.1 hi).1
 obtain ⟨hun, o', ho', hall⟩ := mem_ready.1 hready
 rw [hi] at ho'; cases ho'
 have hun' : listed.getD i false = false := by
  rw [Array.getD_eq_getD_getElem?, Array.getElem?_eq_getElem (by rw [hv.lsz]; exact hlt)] at hun ⊢
  exact hun
 obtain ⟨hdst, v, hvd, hyl⟩ := hv.ahead i hiV hun o hi
 obtain ⟨d, hd⟩ := Option.isSome_iff_exists.1 hdst
 have hset : ∀ j dd, j ≠ i → (listed.setIfInBounds i true).getD j dd = listed.getD j dd := fun j dd hj => getD_set_ne dd (Ne.symm hj)
 have hgot : (listed.setIfInBounds i true).getD i true = true := by
  rw [Array.getD_eq_getD_getElem?, Array.getElem?_setIfInBounds_self_of_lt (by rw [hv.lsz]; exact hlt)]; rfl
 have hb := hvd d hd
 have hlen : d < a.tmps.size := by rw [hv.size]; exact (Array.getElem?_eq_some_iff.1 hb).1
 have hvirt : Virt P ops V (listed.setIfInBounds i true) (a.put o.dst v) b w := by
  refine ⟨by rw [hd]; exact hv.defers, ?_, fun k hk => ?_, fun j hj hjl => ?_, fun j hj hjl => ?_, by simpa using hv.lsz, fun j hj hjl kk hkk => ?_, fun i' j hj hjl ha => ?_⟩
  ·rw [hd]; simp only [Act.put, Array.size_setIfInBounds]; exact hv.size
  ·rw [hd]
   simp only [Act.put]
   by_cases hkd : k = d
   ·subst hkd
    rw [Array.getElem?_setIfInBounds_self_of_lt hlen, hb]
   ·rw [Array.getElem?_setIfInBounds_ne (Ne.symm hkd)]
    refine hv.same k (fun j hj hjl hjd => ?_)
    by_cases hji : j = i
    ·subst hji
     unfold dstOf at hjd
     rw [hi] at hjd
     simp only [Option.bind_some, hd, Option.some.injEq] at hjd
     exact hkd hjd.symm
    ·exact hk j hj (by rw [hset j true hji]; exact hjl) hjd
  ·by_cases hji : j = i
   ·subst hji; rw [hgot] at hjl; cases hjl
   ·rw [hset j true hji] at hjl
    exact hv.ahead j hj hjl
  ·by_cases hji : j = i
   ·subst hji; exact hiV
   ·rw [hset j true hji] at hjl
    exact hv.sub j hj hjl
  ·by_cases hji : j = i
   ·subst hji
    obtain ⟨e, he, hb, rfl⟩ := (mem_deps hi).1 hkk
    exact getD_set_true (hall e he hb)
   ·rw [hset j true hji] at hjl
    exact getD_set_true (hv.down j hj hjl kk hkk)
  ·by_cases hji : j = i
   ·subst hji; rw [hgot] at hjl; cases hjl
   ·rw [hset j true hji] at hjl
    exact getD_set_tt (hv.anti i' j hj hjl ha)
 unfold wpOp
 rw [hi]
 simp only
 rw [hw]
 rcases hyl with ⟨h1, h2⟩ | ⟨h1, h2⟩
 ·rw [h1, if_pos rfl]
  refine .inl ?_
  unfold Oper.wp Oper.upon
  rw [he, h2]
  exact hk v hvirt
 ·rw [h1, if_neg (by simp)]
  subst h2
  exact hk _ hvirt
theorem quiet_run {o : Oper} {ao : AOper} (hok : okO P S.nt ops o ao = true) (hq : ao.op.quiet = true) {s : SS} {E : En} {b : Act} (hs : Sat S s E b) {K : SV → Prop} (h : evC ao.op s K) :
  ∃ x v, K x ∧ den E x v ∧ (execOp b.eval o).run P E.w = .ok (.value v) E.w := by
 simp only [okO, Bool.and_eq_true, beq_iff_eq] at hok
 obtain ⟨⟨_, hop⟩, _⟩ := hok
 rw [hq] at hop
 simp only at hop
 obtain ⟨q, he, hneed, hk⟩ := evC_spec h
 obtain ⟨hyp, v, hr, hv⟩ := ev_sound hop hs.hs hs.fr he hneed
 exact ⟨_, v, hk hyp, hv, hr⟩
theorem okO_dst {o : Oper} {ao : AOper} (hok : okO P S.nt ops o ao = true) : o.dst = ao.dst ∧ ∀ k, ao.dst = some k → k < S.nt := by
 simp only [okO, Bool.and_eq_true, beq_iff_eq] at hok
 obtain ⟨⟨⟨hd, hlt⟩, _⟩, _⟩ := hok
 refine ⟨hd, fun k hk => ?_⟩
 rw [hk] at hlt
 simpa using hlt
theorem okO_noguard {o : Oper} {ao : AOper} (hok : okO P S.nt ops o ao = true) (hg : ao.guard = none) (b : Act) : Region.wanted o (yielded ops b.tmps) = true := by
 simp only [okO, Bool.and_eq_true] at hok
 obtain ⟨_, h⟩ := hok
 rw [hg] at h
 cases ho : o.guard with
 | none => simp [Region.wanted, ho]
 | some x => simp [ho] at h
theorem okO_guard {o : Oper} {ao : AOper} (hok : okO P S.nt ops o ao = true) {slot : Nat} {want : Bool} (hg : ao.guard = some (slot, want)) {s : SS} {E : En} {b : Act} (hs : Sat S s E b) {c : Bool} (hc : lkF s.fr slot = .bool c) :
  Region.wanted o (yielded ops b.tmps) = (c == want) := by
 simp only [okO, Bool.and_eq_true] at hok
 obtain ⟨_, h⟩ := hok
 rw [hg] at h
 cases ho : o.guard with
 | none => simp [ho] at h
 | some x =>
  obtain ⟨j, w⟩ := x
  simp only [ho, Bool.and_eq_true, beq_iff_eq, decide_eq_true_eq] at h
  obtain ⟨⟨rfl, h2⟩, h3⟩ := h
  have hfr := hs.fr slot
  rw [hc] at hfr
  have hy := yielded_den h2 hfr (by rw [hs.size]; exact h3)
  simp only [Region.wanted, ho, hy]
  cases c <;> cases w <;> rfl
theorem okO_guardT {o : Oper} {ao : AOper} (hok : okO P S.nt ops o ao = true) {slot : Nat} {want : Bool} (hg : ao.guard = some (slot, want)) {s : SS} {E : En} {b : Act} (hs : Sat S s E b) (hc : lkF s.fr slot = .tup []) :
  Region.wanted o (yielded ops b.tmps) = false := by
 simp only [okO, Bool.and_eq_true] at hok
 obtain ⟨_, h⟩ := hok
 rw [hg] at h
 cases ho : o.guard with
 | none => simp [ho] at h
 | some x =>
  obtain ⟨j, w⟩ := x
  simp only [ho, Bool.and_eq_true, beq_iff_eq, decide_eq_true_eq] at h
  obtain ⟨⟨rfl, h2⟩, h3⟩ := h
  have hfr := hs.fr slot
  rw [hc] at hfr
  simp [Region.wanted, ho, yielded_tup h2 hfr]
theorem Sat.reput {s : SS} {E : En} {b : Act} (hs : Sat S s E b) {d : Nat} {v : Value} (hv : den E (lkF s.fr d) v) : Sat S s E (b.put (some d) v) := by
 refine ⟨hs.hs, fun k => ?_, hs.ev, hs.id, hs.defers, by simp only [Act.put]; rw [Array.size_setIfInBounds]; exact hs.size⟩
 simp only [Act.put]
 by_cases hkd : k = d
 ·subst hkd
  by_cases hlt : k < b.tmps.size
  ·rw [Array.getD_eq_getD_getElem?, Array.getElem?_setIfInBounds_self_of_lt hlt]; exact hv
  ·have hle : b.tmps.size ≤ k := Nat.le_of_not_lt hlt
   rw [Array.setIfInBounds_eq_of_size_le hle]; exact hs.fr k
 ·rw [Array.getD_eq_getD_getElem?, Array.getElem?_setIfInBounds_ne (Ne.symm hkd), ← Array.getD_eq_getD_getElem?]
  exact hs.fr k
theorem chk1_val {o : Oper} {ao : AOper} (hok : okO P S.nt ops o ao = true) (hq : ao.op.quiet = true) {s : SS} {E : En} {b : Act} (hs : Sat S s E b) (h : chk1 ao s) {d : Nat} (hd : ao.dst = some d) :
  ∃ v, den E (lkF s.fr d) v ∧ ((Region.wanted o (yielded ops b.tmps) = true ∧ (execOp b.eval o).run P E.w = .ok (.value v) E.w) ∨ (Region.wanted o (yielded ops b.tmps) = false ∧ v = undef)) := by
 unfold chk1 at h
 split at h
 ·rename_i hg
  obtain ⟨x, v, h1, h2, h3⟩ := quiet_run hok hq hs h
  rw [hd] at h1
  exact ⟨v, by rw [show lkF s.fr d = x from h1]; exact h2, .inl ⟨okO_noguard hok hg b, h3⟩⟩
 ·rename_i slot want hg
  split at h
  ·rename_i c hc
   have hw := okO_guard hok hg hs hc
   cases hcw : c == want with
   | true =>
    obtain ⟨x, v, h1, h2, h3⟩ := quiet_run hok hq hs (sw_true h hcw)
    rw [hd] at h1
    exact ⟨v, by rw [show lkF s.fr d = x from h1]; exact h2, .inl ⟨by rw [hw, hcw], h3⟩⟩
   | false =>
    have h1 := sw_false h hcw
    rw [hd] at h1
    exact ⟨undef, by rw [show lkF s.fr d = .tup [] from h1]; exact den_undef, .inr ⟨by rw [hw, hcw], rfl⟩⟩
  ·rename_i hc
   have hw := okO_guardT (ops := ops) hok hg hs hc
   rw [hd] at h
   exact ⟨undef, by rw [show lkF s.fr d = .tup [] from h]; exact den_undef, .inr ⟨hw, rfl⟩⟩
  ·cases h
structure Okd (P : Program) (S : Start) (ops : Array Oper) (al : List AOper) : Prop where
 ok : ∀ i o, ops[i]? = some o → okO P S.nt ops o (atA al i) = true
 sel : Region.noSelect ops = true
 dst : ∀ i j d, dstOf ops i = some d → dstOf ops j = some d → i = j
 reads : ∀ i, i < ops.size → okReads ops ops.size i = true
theorem Yl.put_other {hO : Okd P S ops al} {i : Nat} {o : Oper} (hi : ops[i]? = some o) {b : Act} {w : World} {j d : Nat} (hj : dstOf ops j = some d) (hji : j ≠ i) (hnd : j ∉ deps ops i) (hna : ¬ Anti ops i j) {v : Value} (h : Yl P ops o b w) : Yl P ops o (b.put (some d) v) w := by
 have hlt : i < ops.size := (Array.getElem?_eq_some_iff.1 hi).1
 refine h.congr (fun cs bb => Region.noSelect_spec hO.sel i o cs bb hi) (fun t ht => ?_) (fun d' hd' => ?_)
 ·have : d ≠ t := fun e => by subst e; exact hna ⟨rdsB_spec hi ht hj, hnd⟩
  simp only [Act.put]
  rw [Array.getElem?_setIfInBounds_ne this]
 ·have : d ≠ d' := fun e => by
   subst e
   exact hji (hO.dst j i d hj (by unfold dstOf; rw [hi]; exact hd'))
  simp only [Act.put]
  rw [Array.getElem?_setIfInBounds_ne this]
theorem rerun (hO : Okd P S ops al) {listed : Array Bool} {s : SS} {E : En} : ∀ (pend : List Nat) (b : Act), okPend ops pend = true → (∀ j ∈ pend, j < ops.size ∧ isQ al j = true) → Sat S s E b → chkL al pend s →
  ∃ b', Sat S s E b' ∧ b'.tmps.size = b.tmps.size ∧ (∀ k, (∀ j ∈ pend, listed.getD j true = false → dstOf ops j ≠ some k) → b'.tmps[k]? = b.tmps[k]?) ∧
   ∀ j ∈ pend, listed.getD j true = false → ∀ o, ops[j]? = some o → o.dst.isSome = true ∧ Yl P ops o b' E.w
 | [], b, _, _, hs, _ => ⟨b, hs, rfl, fun _ _ => rfl, fun j hj => by cases hj⟩
 | i :: r, b, hp, hl, hs, hc => by
  simp only [okPend, Bool.and_eq_true, Bool.not_eq_true', List.all_eq_true] at hp
  obtain ⟨⟨hp1, hp2⟩, hp3⟩ := hp
  obtain ⟨hc1, hc2⟩ := hc
  obtain ⟨hlt, hq⟩ := hl i (by simp)
  have hl' : ∀ j ∈ r, j < ops.size ∧ isQ al j = true := fun j hj => hl j (List.mem_cons_of_mem _ hj)
  cases hli : listed.getD i true with
  | true =>
   obtain ⟨b', h1, h2, h3, h4⟩ := rerun hO (listed := listed) r b hp3 hl' hs hc2
   refine ⟨b', h1, h2, fun k hk => h3 k (fun j hj hjl => hk j (List.mem_cons_of_mem _ hj) hjl), fun j hj hjl => ?_⟩
   rcases List.mem_cons.1 hj with rfl | hj
   ·rw [hli] at hjl; cases hjl
   ·exact h4 j hj hjl
  | false =>
   have hi : ops[i]? = some ops[i] := Array.getElem?_eq_getElem hlt
   have hok := hO.ok i _ hi
   obtain ⟨hdo, hdlt⟩ := okO_dst hok
   unfold isQ at hq
   simp only [Bool.and_eq_true] at hq
   obtain ⟨d, hd⟩ := Option.isSome_iff_exists.1 hq.2
   obtain ⟨v, hv, hy⟩ := chk1_val hok hq.1 hs hc1 hd
   have hdi : dstOf ops i = some d := by unfold dstOf; rw [hi]; exact hdo.trans hd
   have hdl : d < b.tmps.size := by rw [hs.size]; exact hdlt d hd
   have hs1 := hs.reput hv
   obtain ⟨b', h1, h2, h3, h4⟩ := rerun hO (listed := listed) r (b.put (some d) v) hp3 hl' hs1 hc2
   have hsel : ∀ cs bb, (ops[i]).op ≠ .select cs bb := fun cs bb => Region.noSelect_spec hO.sel i _ cs bb hi
   have hown : ∀ t ∈ (ops[i]).looksAt ops, d ≠ t := fun t ht e => by
    subst e
    rw [rdsB_spec hi ht hdi] at hp1
    cases hp1
   have hy1 : Yl P ops ops[i] (b.put (some d) v) E.w := by
    obtain ⟨e1, e2⟩ := same_exec (ops := ops) (o := ops[i]) (a := b.put (some d) v) (b := b) hsel (fun t ht => by
     simp only [Act.put]; rw [Array.getElem?_setIfInBounds_ne (hown t ht)])
    refine ⟨v, fun d' hd' => ?_, ?_⟩
    ·rw [hdo, hd] at hd'
     cases hd'
     simp only [Act.put]
     rw [Array.getElem?_setIfInBounds_self_of_lt hdl]
    ·rw [e1, e2]; exact hy
   refine ⟨b', h1, by rw [h2]; simp only [Act.put, Array.size_setIfInBounds], fun k hk => ?_, fun j hj hjl => ?_⟩
   ·rw [h3 k (fun j hj hjl => hk j (List.mem_cons_of_mem _ hj) hjl)]
    simp only [Act.put]
    rw [Array.getElem?_setIfInBounds_ne (fun e => hk i (by simp) hli (by rw [hdi, e]))]
   ·rcases List.mem_cons.1 hj with rfl | hj
    ·intro o ho
     rw [hi] at ho; cases ho
     refine ⟨by rw [hdo, hd]; rfl, hy1.congr hsel (fun t ht => ?_) (fun d' hd' => ?_)⟩
     ·refine (h3 t (fun j hj hjl hjd => ?_)).symm
      have h5 := hp2 j hj
      simp [rdsB_spec hi ht hjd] at h5
     ·refine (h3 d' (fun j' hj' hjl' hjd => ?_)).symm
      rw [hdo, hd] at hd'
      cases hd'
      have h5 := hp2 j' hj'
      have := hO.dst _ j' d hdi hjd
      simp [this] at h5
    ·exact h4 j hj hjl
end drawn
end Go.V
namespace Go.V
set_option linter.unusedSimpArgs false
set_option linter.unnecessarySimpa false
set_option linter.unusedVariables false
def topo (ops : Array Oper) : List Nat → Prop
 | [] => True
 | i :: V => (∀ j ∈ deps ops i, j ∈ V) ∧ topo ops V
theorem topo_deps {ops : Array Oper} : ∀ {V : List Nat}, topo ops V → ∀ i ∈ V, ∀ j ∈ deps ops i, j ∈ V
 | i :: V, h, i', hi, j, hj => by
  rcases List.mem_cons.1 hi with rfl | hi
  ·exact List.mem_cons_of_mem _ (h.1 j hj)
  ·exact List.mem_cons_of_mem _ (topo_deps h.2 i' hi j hj)
theorem topo_first {ops : Array Oper} {listed : Array Bool} : ∀ {V : List Nat}, topo ops V → (∃ i ∈ V, listed.getD i true = false) → ∃ i ∈ V, listed.getD i true = false ∧ ∀ j ∈ deps ops i, listed.getD j true = true
 | [], _, h => by obtain ⟨i, hi, _⟩ := h; cases hi
 | i :: V, ht, h => by
  have cl := Classical.propDecidable
  by_cases hV : ∃ i ∈ V, listed.getD i true = false
  ·obtain ⟨j, h1, h2, h3⟩ := topo_first ht.2 hV
   exact ⟨j, List.mem_cons_of_mem _ h1, h2, h3⟩
  ·obtain ⟨j, hj, hjl⟩ := h
   rcases List.mem_cons.1 hj with rfl | hj
   ·refine ⟨j, by simp, hjl, fun k hk => ?_⟩
    cases hkl : listed.getD k true with
    | true => rfl
    | false => exact absurd ⟨k, ht.1 k hk, hkl⟩ hV
   ·exact absurd ⟨j, hj, hjl⟩ hV
theorem countP_less {α : Type} {p q : α → Bool} : ∀ (l : List α), (∀ x, q x = true → p x = true) → (∃ x ∈ l, p x = true ∧ q x = false) → l.countP q < l.countP p
 | [], _, h => by obtain ⟨x, hx, _⟩ := h; cases hx
 | y :: l, hi, h => by
  have le : l.countP q ≤ l.countP p := List.countP_mono_left (fun x _ => hi x)
  obtain ⟨x, hx, h1, h2⟩ := h
  rcases List.mem_cons.1 hx with rfl | hx
  ·rw [List.countP_cons_of_pos h1, List.countP_cons_of_neg (by simp [h2])]; omega
  ·have := countP_less l hi ⟨x, hx, h1, h2⟩
   by_cases hq : q y = true
   ·rw [List.countP_cons_of_pos hq, List.countP_cons_of_pos (hi y hq)]; omega
   ·rw [List.countP_cons_of_neg hq]
    have : l.countP p ≤ (y :: l).countP p := by rw [List.countP_cons]; omega
    omega
def cnt (n : Nat) (listed : Array Bool) : Nat := (List.range n).countP fun i => !listed.getD i true
theorem cnt_set {n i : Nat} {listed : Array Bool} (hi : i < n) (hl : listed.getD i true = false) (hs : listed.size = n) : cnt n (listed.setIfInBounds i true) < cnt n listed := by
 refine countP_less _ (fun x hx => ?_) ⟨i, List.mem_range.2 hi, by simp [hl], ?_⟩
 ·by_cases hxi : x = i
  ·subst hxi; simp [hl]
  ·rw [getD_set_ne true (Ne.symm hxi)] at hx; exact hx
 ·rw [Array.getD_eq_getD_getElem?, Array.getElem?_setIfInBounds_self_of_lt (by omega)]; rfl
section drawn
variable {P : Program} {S : Start} {Γ : List (Nat × Contract)} {ops : Array Oper} {al : List AOper} {Q : Exit → Act → World → Prop} {K : SS → Prop}
theorem ready_of {listed : Array Bool} {i : Nat} (hi : i < ops.size) (hs : listed.size = ops.size) (hl : listed.getD i true = false) (hd : ∀ j ∈ deps ops i, j < ops.size ∧ listed.getD j true = true) : i ∈ Region.ready .any ops listed := by
 refine mem_ready.2 ⟨hl, ops[i], Array.getElem?_eq_getElem hi, fun e he hb => ?_⟩
 obtain ⟨h1, h2⟩ := hd e.on ((mem_deps (Array.getElem?_eq_getElem hi)).2 ⟨e, he, hb, rfl⟩)
 rw [Array.getD_eq_getD_getElem?, Array.getElem?_eq_getElem (by omega)] at h2 ⊢
 exact h2
theorem virt_ahead (hO : Okd P S ops al) {V : List Nat} {listed : Array Bool} {a b : Act} {w : World} (hv : Virt P ops V listed a b w) (ht : topo ops V) {i : Nat} (hlt : i < ops.size) (hiV : i ∉ V) (hdeps : ∀ j ∈ deps ops i, j ∈ V) {d : Nat} (hd : dstOf ops i = some d) (hdl : d < b.tmps.size) (hR : ∀ k, Anti ops k i → listed.getD k true = true) {v : Value}
  (hy : (Region.wanted ops[i] (yielded ops b.tmps) = true ∧ (execOp b.eval ops[i]).run P w = .ok (.value v) w) ∨ (Region.wanted ops[i] (yielded ops b.tmps) = false ∧ v = undef)) :
  Virt P ops (i :: V) listed a (b.put (some d) v) w := by
 have hi : ops[i]? = some ops[i] := Array.getElem?_eq_getElem hlt
 have hnot : listed.getD i true = false := by
  cases h : listed.getD i true with
  | false => rfl
  | true => exact absurd (hv.sub i hlt h) hiV
 have hod : (ops[i]).dst = some d := by unfold dstOf at hd; rw [hi] at hd; exact hd
 have hsel : ∀ cs bb, (ops[i]).op ≠ .select cs bb := fun cs bb => Region.noSelect_spec hO.sel i _ cs bb hi
 refine ⟨hv.defers, by simp only [Act.put, Array.size_setIfInBounds]; exact hv.size, fun k hk => ?_, fun j hj hjl o ho => ?_, fun j hj hjl => List.mem_cons_of_mem _ (hv.sub j hj hjl), hv.lsz, hv.down, fun k j hj hjl ha => ?_⟩
 ·have hkd : d ≠ k := fun e => hk i (by simp) hnot (by rw [hd, e])
  simp only [Act.put]
  rw [Array.getElem?_setIfInBounds_ne hkd]
  exact hv.same k (fun j hj => hk j (List.mem_cons_of_mem _ hj))
 ·rcases List.mem_cons.1 hj with rfl | hj
  ·rw [hi] at ho; cases ho
   refine ⟨by rw [hod]; rfl, v, fun d' hd' => ?_, ?_⟩
   ·rw [hod] at hd'; cases hd'
    simp only [Act.put]
    rw [Array.getElem?_setIfInBounds_self_of_lt hdl]
   ·obtain ⟨e1, e2⟩ := same_exec (ops := ops) (o := ops[j]) (a := b.put (some d) v) (b := b) hsel (fun t ht' => by
     have : d ≠ t := fun e => by
      subst e
      exact hiV (hdeps j ((reads_spec (hO.reads j hlt) hi d ht' j hd).resolve_right (fun h => h.1 rfl)))
     simp only [Act.put]; rw [Array.getElem?_setIfInBounds_ne this])
    rw [e1, e2]; exact hy
  ·obtain ⟨h1, h2⟩ := hv.ahead j hj hjl o ho
   exact ⟨h1, h2.put_other (hO := hO) ho hd (fun e => hiV (e ▸ hj)) (fun hdep => hiV (topo_deps ht j hj i hdep)) (fun ha => by rw [hR j ha] at hjl; cases hjl)⟩
 ·rcases List.mem_cons.1 hj with rfl | hj
  ·exact hR k ha
  ·exact hv.anti k j hj hjl ha
theorem set_ne {listed : Array Bool} {i j : Nat} (h : j ≠ i) (dd : Bool) : (listed.setIfInBounds i true).getD j dd = listed.getD j dd := getD_set_ne dd (Ne.symm h)
theorem set_self {listed : Array Bool} {i : Nat} (h : i < listed.size) (dd : Bool) : (listed.setIfInBounds i true).getD i dd = true := by
 rw [Array.getD_eq_getD_getElem?, Array.getElem?_setIfInBounds_self_of_lt h]; rfl
theorem getD_tf {listed : Array Bool} {i : Nat} (h : i < listed.size) {c : Bool} : listed.getD i true = c ↔ listed.getD i false = c := by
 rw [Array.getD_eq_getD_getElem?, Array.getD_eq_getD_getElem?, Array.getElem?_eq_getElem h]; rfl
theorem ready_some {V : List Nat} {listed : Array Bool} (ht : topo ops V) (hV : ∀ j ∈ V, j < ops.size) (hs : listed.size = ops.size) (h0 : Region.ready .any ops listed = []) : ∀ j ∈ V, listed.getD j true = true := by
 intro j hj
 cases hl : listed.getD j true with
 | true => rfl
 | false =>
  obtain ⟨i, h1, h2, h3⟩ := topo_first ht ⟨j, hj, hl⟩
  have := ready_of (hV i h1) hs h2 (fun k hk => ⟨hV k (topo_deps ht i h1 k hk), h3 k hk⟩)
  rw [h0] at this; cases this
theorem virt_done (hO : Okd P S ops al) {V ef pend : List Nat} {listed : Array Bool} {a b b' : Act} {w w' : World} (hv : Virt P ops V listed a b w) (hVlt : ∀ j ∈ V, j < ops.size) {i : Nat} (hlt : i < ops.size) (hiV : i ∉ V) (hdeps : ∀ j ∈ deps ops i, j ∈ V)
  (hready : i ∈ Region.ready .any ops listed) (hef : ∀ j ∈ ef, listed.getD j true = true) (hpV : ∀ j ∈ pend, j ∈ V) (hC2 : ∀ j ∈ V, j ∈ ef ∨ j ∈ pend ∨ j ∈ clos ops 4000 (deps ops i) []) {v : Value}
  (hsz : b'.tmps.size = (b.put (ops[i]).dst v).tmps.size) (hsame : ∀ k, (∀ j ∈ pend, (listed.setIfInBounds i true).getD j true = false → dstOf ops j ≠ some k) → b'.tmps[k]? = (b.put (ops[i]).dst v).tmps[k]?)
  (hah : ∀ j ∈ pend, (listed.setIfInBounds i true).getD j true = false → ∀ o, ops[j]? = some o → o.dst.isSome = true ∧ Yl P ops o b' w') :
  Virt P ops (i :: V) (listed.setIfInBounds i true) (a.put (ops[i]).dst v) b' w' := by
 have hi : ops[i]? = some ops[i] := Array.getElem?_eq_getElem hlt
 obtain ⟨hun, o', ho', hall⟩ := mem_ready.1 hready
 rw [hi] at ho'; cases ho'
 have hdl : ∀ j ∈ deps ops i, listed.getD j false = true := fun j hj => by
  obtain ⟨e, he, hb, rfl⟩ := (mem_deps hi).1 hj
  exact hall e he hb
 refine ⟨?_, ?_, fun k hk => ?_, fun j hj hjl => ?_, fun j hj hjl => ?_, by simpa using hv.lsz, fun j hj hjl k hk => ?_, fun k j hj hjl ha => ?_⟩
 ·cases hd : (ops[i]).dst <;> exact hv.defers
 ·rw [hsz]
  cases hd : (ops[i]).dst with
  | none => exact hv.size
  | some d => simp only [Act.put, Array.size_setIfInBounds]; exact hv.size
 ·rw [hsame k (fun j hj hjl => hk j (List.mem_cons_of_mem _ (hpV j hj)) hjl)]
  have hbase : a.tmps[k]? = b.tmps[k]? ∨ (ops[i]).dst = some k := by
   by_cases hdk : (ops[i]).dst = some k
   ·exact .inr hdk
   ·exact .inl (hv.same k (fun j hj hjl hjd => by
     have hji : j ≠ i := fun e => hiV (e ▸ hj)
     exact hk j (List.mem_cons_of_mem _ hj) (by rw [set_ne hji]; exact hjl) hjd))
  cases hd : (ops[i]).dst with
  | none => rw [hd] at hbase; exact hbase.resolve_right (by simp)
  | some d =>
   rw [hd] at hbase
   simp only [Act.put]
   by_cases hkd : d = k
   ·subst hkd
    have := hv.size
    by_cases hlen : d < a.tmps.size
    ·rw [Array.getElem?_setIfInBounds_self_of_lt hlen, Array.getElem?_setIfInBounds_self_of_lt (this ▸ hlen)]
    ·have h1 : a.tmps.size ≤ d := Nat.le_of_not_lt hlen
     rw [Array.getElem?_eq_none (by rw [Array.size_setIfInBounds]; exact h1), Array.getElem?_eq_none (by rw [Array.size_setIfInBounds]; exact this ▸ h1)]
   ·rw [Array.getElem?_setIfInBounds_ne hkd, Array.getElem?_setIfInBounds_ne hkd]
    exact hbase.resolve_right (by simpa using hkd)
 ·rcases List.mem_cons.1 hj with rfl | hj
  ·rw [set_self (by rw [hv.lsz]; exact hlt)] at hjl; cases hjl
  ·have hji : j ≠ i := fun e => hiV (e ▸ hj)
   rcases hC2 j hj with h | h | h
   ·rw [set_ne hji, hef j h] at hjl; cases hjl
   ·exact hah j h hjl
   ·have : ∀ k ∈ clos ops 4000 (deps ops i) [], k < ops.size ∧ listed.getD k false = true := by
     refine clos_spec ops (fun k => k < ops.size ∧ listed.getD k false = true) (fun k hk m hm => ?_) _ _ _ (fun k hk => ⟨hVlt k (hdeps k hk), hdl k hk⟩) (fun k hk => by cases hk)
     have h1 := hv.down k hk.1 ((getD_tf (by rw [hv.lsz]; exact hk.1)).2 hk.2) m hm
     refine ⟨?_, h1⟩
     rcases Nat.lt_or_ge m ops.size with h' | h'
     ·exact h'
     ·rw [Array.getD_eq_getD_getElem?, Array.getElem?_eq_none (by rw [hv.lsz]; exact h')] at h1; cases h1
    rw [set_ne hji, (getD_tf (by rw [hv.lsz]; exact (this j h).1)).2 (this j h).2] at hjl; cases hjl
 ·by_cases hji : j = i
  ·subst hji; simp
  ·rw [set_ne hji] at hjl
   exact List.mem_cons_of_mem _ (hv.sub j hj hjl)
 ·by_cases hji : j = i
  ·subst hji; exact getD_set_true (hdl k hk)
  ·rw [set_ne hji] at hjl
   exact getD_set_true (hv.down j hj hjl k hk)
 ·rcases List.mem_cons.1 hj with rfl | hj
  ·rw [set_self (by rw [hv.lsz]; exact hlt)] at hjl; cases hjl
  ·have hji : j ≠ i := fun e => hiV (e ▸ hj)
   rw [set_ne hji] at hjl
   exact getD_set_tt (hv.anti k j hj hjl ha)
theorem clos_listed {V : List Nat} {listed : Array Bool} {a b : Act} {w : World} (hv : Virt P ops V listed a b w) (hVlt : ∀ j ∈ V, j < ops.size) {i : Nat} (hlt : i < ops.size) (hdeps : ∀ j ∈ deps ops i, j ∈ V)
  (hready : i ∈ Region.ready .any ops listed) : ∀ k ∈ clos ops 4000 (deps ops i) [], listed.getD k true = true := by
 have hi : ops[i]? = some ops[i] := Array.getElem?_eq_getElem hlt
 obtain ⟨hun, o', ho', hall⟩ := mem_ready.1 hready
 rw [hi] at ho'; cases ho'
 have hdl : ∀ j ∈ deps ops i, listed.getD j false = true := fun j hj => by
  obtain ⟨e, he, hb, rfl⟩ := (mem_deps hi).1 hj
  exact hall e he hb
 have : ∀ k ∈ clos ops 4000 (deps ops i) [], k < ops.size ∧ listed.getD k false = true := by
  refine clos_spec ops (fun k => k < ops.size ∧ listed.getD k false = true) (fun k hk m hm => ?_) _ _ _ (fun k hk => ⟨hVlt k (hdeps k hk), hdl k hk⟩) (fun k hk => by cases hk)
  have h1 := hv.down k hk.1 ((getD_tf (by rw [hv.lsz]; exact hk.1)).2 hk.2) m hm
  refine ⟨?_, h1⟩
  rcases Nat.lt_or_ge m ops.size with h' | h'
  ·exact h'
  ·rw [Array.getD_eq_getD_getElem?, Array.getElem?_eq_none (by rw [hv.lsz]; exact h')] at h1; cases h1
 intro k hk
 exact (getD_tf (by rw [hv.lsz]; exact (this k hk).1)).2 (this k hk).2
theorem stage (hΓ : GOkS P Γ S) (hO : Okd P S ops al) (hQ : ∀ c x w, ¬ Q (.panic c) x w) (hfin : ∀ s' E' a', K s' → Sat S s' E' a' → Q .normal a' E'.w) :
    ∀ (items : List DI) (V ef : List Nat) (fuel : Nat) (listed : Array Bool) (s : SS) (E : En) (a b : Act), okItems ops al ops.size V ef items = true → topo ops V → (∀ j ∈ V, j < ops.size) → (∀ j ∈ ef, listed.getD j true = true) →
      cnt ops.size listed ≤ fuel → Virt P ops V listed a b E.w → Sat S s E b → runD Γ al items s K → wpAny P .any ops Q fuel listed a E.w
  | [], V, ef, fuel, listed, s, E, a, b, hok, ht, hV, hef, hc, hv, hs, h => by
    simp only [okItems, Bool.and_eq_true, List.all_eq_true, List.mem_range] at hok
    have hall : ∀ i, i < ops.size → i ∈ V := fun i hi => by have := hok.2 i hi; rw [List.contains_eq_mem] at this; simpa using this
    have done : ∀ (listed : Array Bool) (a : Act), Virt P ops V listed a b E.w → (∀ j ∈ V, listed.getD j true = true) → Q .normal a E.w := by
      intro listed a hv hl
      have he : a.tmps = b.tmps := Array.ext_getElem? fun k => hv.same k (fun j hj hjl => by rw [hl j hj] at hjl; cases hjl)
      refine hfin s E a h ⟨hs.hs, fun k => by rw [he]; exact hs.fr k, hs.ev, hs.id, hv.defers, by rw [he]; exact hs.size⟩
    have key : ∀ (fuel : Nat) (listed : Array Bool) (a : Act), cnt ops.size listed ≤ fuel → Virt P ops V listed a b E.w → wpAny P .any ops Q fuel listed a E.w := by
      intro fuel
      induction fuel with
      | zero =>
        intro listed a hc hv
        have hl : ∀ j ∈ V, listed.getD j true = true := by
          intro j hj
          cases hjl : listed.getD j true with
          | true => rfl
          | false => have := cnt_set (hV j hj) hjl hv.lsz; omega
        refine ⟨?_, done listed a hv hl⟩
        cases hr : Region.ready .any ops listed with
        | nil => rfl
        | cons i r =>
          have hi : i ∈ Region.ready .any ops listed := by rw [hr]; simp
          obtain ⟨h1, o, ho, _⟩ := mem_ready.1 hi
          rw [hl i (hall i (Array.getElem?_eq_some_iff.1 ho).1)] at h1; cases h1
      | succ fuel ih =>
        intro listed a hc hv
        refine ⟨fun h0 => done listed a hv (ready_some ht hV hv.lsz h0), fun i hi => ?_⟩
        obtain ⟨h1, o, ho, _⟩ := mem_ready.1 hi
        have hlt := (Array.getElem?_eq_some_iff.1 ho).1
        refine virt_real hv hO.sel (hO.reads i hlt) ho hi (hall i hlt) (fun v hv' => ih _ _ ?_ hv')
        have := cnt_set hlt h1 hv.lsz
        omega
    exact key fuel listed a hc hv
  | .q i :: r, V, ef, fuel, listed, s, E, a, b, hok, ht, hV, hef, hc, hv, hs, h => by
    simp only [okItems, Bool.and_eq_true, decide_eq_true_eq, Bool.not_eq_true', List.all_eq_true] at hok
    obtain ⟨⟨⟨⟨⟨hq, hlt⟩, hiV⟩, hdeps⟩, hRr⟩, hokr⟩ := hok
    have hR : ∀ k, Anti ops k i → listed.getD k true = true := by
      rintro k ⟨h1, h2⟩
      have hk : k < ops.size := by
        rcases Nat.lt_or_ge k ops.size with h | h
        · exact h
        · unfold rdsB at h1; rw [Array.getElem?_eq_none h] at h1; cases h1
      have := hRr k (List.mem_range.2 hk)
      rw [h1] at this
      simp only [Bool.not_true, Bool.false_or, Bool.or_eq_true, List.contains_eq_mem, decide_eq_true_eq] at this
      exact hef k (this.resolve_left h2)
    have hiV' : i ∉ V := by rw [List.contains_eq_mem] at hiV; simpa using hiV
    have hdeps' : ∀ j ∈ deps ops i, j ∈ V := fun j hj => by have := hdeps j hj; rw [List.contains_eq_mem] at this; simpa using this
    have hi : ops[i]? = some ops[i] := Array.getElem?_eq_getElem hlt
    have hok := hO.ok i _ hi
    obtain ⟨hdo, hdlt⟩ := okO_dst hok
    unfold isQ at hq
    simp only [Bool.and_eq_true] at hq
    obtain ⟨d, hd⟩ := Option.isSome_iff_exists.1 hq.2
    have hdi : dstOf ops i = some d := by unfold dstOf; rw [hi]; exact hdo.trans hd
    have hdl : d < b.tmps.size := by rw [hs.size]; exact hdlt d hd
    have hV' : ∀ j ∈ i :: V, j < ops.size := fun j hj => by
      rcases List.mem_cons.1 hj with rfl | hj
      · exact hlt
      · exact hV j hj
    have on : ∀ (s2 : SS) (v : Value), Sat S s2 E (b.put (some d) v) → runD Γ al r s2 K → ((Region.wanted ops[i] (yielded ops b.tmps) = true ∧ (execOp b.eval ops[i]).run P E.w = .ok (.value v) E.w) ∨ (Region.wanted ops[i] (yielded ops b.tmps) = false ∧ v = undef)) →
        wpAny P .any ops Q fuel listed a E.w := fun s2 v hs2 hk hy =>
      stage hΓ hO hQ hfin r (i :: V) ef fuel listed s2 E a _ hokr ⟨hdeps', ht⟩ hV' hef hc (virt_ahead hO hv ht hlt hiV' hdeps' hdi hdl hR hy) hs2 hk
    simp only [runD] at h
    unfold runE at h
    split at h
    · rename_i hg
      unfold step at h
      rw [hq.1] at h
      obtain ⟨x, v, hk, hx, hr⟩ := quiet_run hok hq.1 hs h
      rw [hd] at hk
      exact on _ v (hs.put (fun k hk' => by cases hk'; exact hdlt d hd) hx) hk (.inl ⟨okO_noguard hok hg b, hr⟩)
    · rename_i slot want hg
      split at h
      · rename_i c hcc
        have hw := okO_guard hok hg hs hcc
        have hslot : den E (.bool c) (b.tmps.getD slot undef) := by rw [← hcc]; exact hs.fr slot
        have hself : ∀ c' : Bool, c = c' → Sat S (s.put (some slot) (.bool c')) E b := by
          intro c' hc'
          refine hs.frame (fun k => ?_)
          rw [lkF_up]
          split
          · rename_i hk; subst hk; subst hc'; exact hslot
          · exact hs.fr k
        cases hcw : c == want with
        | true =>
          have h1 := sw_true h hcw
          have hcw' : c = want := by simpa using hcw
          unfold step at h1
          rw [hq.1] at h1
          obtain ⟨x, v, hk, hx, hr⟩ := quiet_run hok hq.1 (hself want hcw') h1
          rw [hd] at hk
          exact on _ v ((hself want hcw').put (fun k hk' => by cases hk'; exact hdlt d hd) hx) hk (.inl ⟨by rw [hw, hcw], hr⟩)
        | false =>
          have h1 := sw_false h hcw
          have hcw' : c = !want := by cases c <;> cases want <;> simp at hcw ⊢
          rw [hd] at h1
          exact on _ undef ((hself _ hcw').put (d := some d) (x := .tup []) (fun k hk' => by cases hk'; exact hdlt d hd) den_undef) h1 (.inr ⟨by rw [hw, hcw], rfl⟩)
      · rename_i hcc
        have hw := okO_guardT (ops := ops) hok hg hs hcc
        rw [hd] at h
        exact on _ undef (hs.put (d := some d) (x := .tup []) (fun k hk' => by cases hk'; exact hdlt d hd) den_undef) h (.inr ⟨hw, rfl⟩)
      · cases h
  | .e i pend :: r, V, ef, fuel, listed, s, E, a, b, hok, ht, hV, hef, hc, hv, hs, h => by
    simp only [okItems, Bool.and_eq_true, decide_eq_true_eq, Bool.not_eq_true', List.all_eq_true, List.mem_range, Bool.or_eq_true, beq_iff_eq, List.any_eq_true] at hok
    obtain ⟨⟨⟨⟨⟨⟨⟨hlt, hiV⟩, hdeps⟩, hC6⟩, hpend⟩, hpq⟩, hC2⟩, hokr⟩ := hok
    have mem : ∀ (l : List Nat) (x : Nat), l.contains x = true → x ∈ l := fun l x h => by rw [List.contains_eq_mem] at h; simpa using h
    have hiV' : i ∉ V := by rw [List.contains_eq_mem] at hiV; simpa using hiV
    have hdeps' : ∀ j ∈ deps ops i, j ∈ V := fun j hj => mem _ _ (hdeps j hj)
    have hi : ops[i]? = some ops[i] := Array.getElem?_eq_getElem hlt
    have hok := hO.ok i _ hi
    obtain ⟨hdo, hdlt⟩ := okO_dst hok
    have hV' : ∀ j ∈ i :: V, j < ops.size := fun j hj => by
      rcases List.mem_cons.1 hj with rfl | hj
      · exact hlt
      · exact hV j hj
    have hpV : ∀ j ∈ pend, j ∈ V := fun j hj => mem _ _ (hpq j hj).1
    have hC2' : ∀ j ∈ V, j ∈ ef ∨ j ∈ pend ∨ j ∈ clos ops 4000 (deps ops i) [] := fun j hj => by
      rcases hC2 j hj with (h | h) | h
      · exact .inl (mem _ _ h)
      · exact .inr (.inl (mem _ _ h))
      · exact .inr (.inr (mem _ _ h))
    have key : ∀ (fuel : Nat) (listed : Array Bool) (a : Act), (∀ j ∈ ef, listed.getD j true = true) → cnt ops.size listed ≤ fuel → Virt P ops V listed a b E.w → wpAny P .any ops Q fuel listed a E.w := by
      intro fuel
      induction fuel with
      | zero =>
        intro listed a _ hc hv
        exfalso
        have hun : listed.getD i true = false := by
          cases hl : listed.getD i true with
          | false => rfl
          | true => exact absurd (hv.sub i hlt hl) hiV'
        have := cnt_set hlt hun hv.lsz
        omega
      | succ fuel ih =>
        intro listed a hef hc hv
        have hun : listed.getD i true = false := by
          cases hl : listed.getD i true with
          | false => rfl
          | true => exact absurd (hv.sub i hlt hl) hiV'
        refine ⟨fun h0 => ?_, fun i' hi' => ?_⟩
        · exfalso
          have hl := ready_some ht hV hv.lsz h0
          have := ready_of hlt hv.lsz hun (fun j hj => ⟨hV j (hdeps' j hj), hl j (hdeps' j hj)⟩)
          rw [h0] at this; cases this
        · obtain ⟨h1, o, ho, hall⟩ := mem_ready.1 hi'
          have hlt' := (Array.getElem?_eq_some_iff.1 ho).1
          by_cases hi'V : i' ∈ V
          · refine virt_real hv hO.sel (hO.reads i' hlt') ho hi' hi'V (fun v hv' => ih _ _ (fun j hj => ?_) ?_ hv')
            · by_cases hji : j = i'
              · subst hji; rw [set_self (by rw [hv.lsz]; exact hlt')]
              · rw [set_ne hji]; exact hef j hj
            · have := cnt_set hlt' h1 hv.lsz
              omega
          · have hii : i' = i := by
              rcases hC6 i' hlt' with (h | h) | ⟨k, hk, hkV⟩
              · exact absurd (mem _ _ h) hi'V
              · exact h
              · exfalso
                obtain ⟨e, he, hb, rfl⟩ := (mem_deps ho).1 hk
                have h2 := hall e he hb
                have hklt : e.on < ops.size := by
                  rcases Nat.lt_or_ge e.on ops.size with h' | h'
                  · exact h'
                  · rw [Array.getD_eq_getD_getElem?, Array.getElem?_eq_none (by rw [hv.lsz]; exact h')] at h2; cases h2
                have := hv.sub e.on hklt ((getD_tf (by rw [hv.lsz]; exact hklt)).2 h2)
                rw [List.contains_eq_mem] at hkV
                simp [this] at hkV
            subst hii
            rw [hi] at ho; cases ho
            obtain ⟨he, hw⟩ := ready_like hv hO.sel (hO.reads i' hlt) hi hi'
            have hcl := clos_listed hv hV hlt hdeps' hi'
            have hef' : ∀ j ∈ i' :: V.filter (fun j => !pend.contains j), (listed.setIfInBounds i' true).getD j true = true := fun j hj => by
              by_cases hji : j = i'
              · subst hji; rw [set_self (by rw [hv.lsz]; exact hlt)]
              · rw [set_ne hji]
                rcases List.mem_cons.1 hj with e | hj
                · exact absurd e hji
                · obtain ⟨hj1, hj2⟩ := List.mem_filter.1 hj
                  rcases hC2' j hj1 with h | h | h
                  · exact hef j h
                  · rw [List.contains_eq_mem] at hj2; simp [h] at hj2
                  · exact hcl j h
            have hc' : cnt ops.size (listed.setIfInBounds i' true) ≤ fuel := by have := cnt_set hlt h1 hv.lsz; omega
            have eff1 : ∀ (s0 : SS), Sat S s0 E b → step Γ (atA al i') s0 (andK (chkL al pend) fun s' => runD Γ al r s' K) →
                (ops[i']).wp P a E.w (wpAny P .any ops Q fuel (listed.setIfInBounds i' true)) Q := by
              intro s0 hs0 hst
              refine wp_like he hv.size hQ (step_sound hΓ hok hs0 hst fun s' E' v hk hs' => ?_)
              obtain ⟨hk1, hk2⟩ := hk
              obtain ⟨b', r1, r2, r3, r4⟩ := rerun hO (listed := listed.setIfInBounds i' true) pend _ hpend (fun j hj => ⟨hV j (hpV j hj), (hpq j hj).2⟩) hs' hk1
              exact ⟨v, rfl, stage hΓ hO hQ hfin r (i' :: V) (i' :: V.filter (fun j => !pend.contains j)) fuel _ s' E' _ b' hokr ⟨hdeps', ht⟩ hV' hef' hc'
                (virt_done hO hv hV hlt hiV' hdeps' hi' hef hpV hC2' r2 r3 r4) r1 hk2⟩
            simp only [runD] at h
            unfold runE at h
            unfold wpOp
            rw [hi]
            simp only
            rw [hw]
            split at h
            · rename_i hg
              rw [okO_noguard hok hg b, if_pos rfl]
              exact .inl (eff1 s hs h)
            · rename_i slot want hg
              split at h
              · rename_i c hcc
                rw [okO_guard hok hg hs hcc]
                have hslot : den E (.bool c) (b.tmps.getD slot undef) := by rw [← hcc]; exact hs.fr slot
                have hself : ∀ c' : Bool, c = c' → Sat S (s.put (some slot) (.bool c')) E b := by
                  intro c' hc'
                  refine hs.frame (fun k => ?_)
                  rw [lkF_up]
                  split
                  · rename_i hk; subst hk; subst hc'; exact hslot
                  · exact hs.fr k
                cases hcw : c == want with
                | true =>
                  rw [if_pos rfl]
                  exact .inl (eff1 _ (hself want (by simpa using hcw)) (sw_true h hcw))
                | false =>
                  rw [if_neg (by simp)]
                  have h3 := sw_false h hcw
                  have hcw' : c = !want := by cases c <;> cases want <;> simp at hcw ⊢
                  refine stage hΓ hO hQ hfin r (i' :: V) (i' :: V.filter (fun j => !pend.contains j)) fuel _ _ E _ (b.put (ops[i']).dst undef) hokr ⟨hdeps', ht⟩ hV' hef' hc' ?_ (by rw [hdo]; exact (hself _ hcw').put hdlt den_undef) h3
                  refine virt_done hO hv hV hlt hiV' hdeps' hi' hef (fun j hj => hj) (fun j hj => .inr (.inl hj)) rfl (fun _ _ => rfl) (fun j hj hjl o ho => ?_)
                  have hji : j ≠ i' := fun e => hiV' (e ▸ hj)
                  rw [set_ne hji] at hjl
                  obtain ⟨k1, k2⟩ := hv.ahead j hj hjl o ho
                  refine ⟨k1, ?_⟩
                  cases hd : (ops[i']).dst with
                  | none => exact k2
                  | some d => exact k2.put_other (hO := hO) ho (j := i') (by unfold dstOf; rw [hi]; exact hd) (Ne.symm hji) (fun hdep => hiV' (topo_deps ht j hj i' hdep)) (fun ha => by
                    have hjlt := hV j hj
                    have hoj : ops[j]? = some ops[j] := Array.getElem?_eq_getElem hjlt
                    have hr := hO.reads j hjlt
                    unfold okReads at hr
                    have h2 := List.all_eq_true.1 hr i' (List.mem_range.2 hlt)
                    rw [ha.1] at h2
                    simp only [Bool.not_true, Bool.false_or, Bool.or_eq_true, Bool.and_eq_true, bne_iff_ne, ne_eq, List.contains_eq_mem, decide_eq_true_eq] at h2
                    have h3 := (h2.resolve_left ha.2).2
                    obtain ⟨e, he, hb, hej⟩ := (mem_deps hi).1 h3
                    have h4 := hall e he hb
                    rw [hej] at h4
                    rw [(getD_tf (by rw [hv.lsz]; exact hjlt)).2 h4] at hjl; cases hjl)
              · rename_i hcc
                rw [okO_guardT (ops := ops) hok hg hs hcc, if_neg (by simp)]
                refine stage hΓ hO hQ hfin r (i' :: V) (i' :: V.filter (fun j => !pend.contains j)) fuel _ _ E _ (b.put (ops[i']).dst undef) hokr ⟨hdeps', ht⟩ hV' hef' hc' ?_ (by rw [hdo]; exact hs.put hdlt den_undef) h
                refine virt_done hO hv hV hlt hiV' hdeps' hi' hef (fun j hj => hj) (fun j hj => .inr (.inl hj)) rfl (fun _ _ => rfl) (fun j hj hjl o ho => ?_)
                have hji : j ≠ i' := fun e => hiV' (e ▸ hj)
                rw [set_ne hji] at hjl
                obtain ⟨k1, k2⟩ := hv.ahead j hj hjl o ho
                refine ⟨k1, ?_⟩
                cases hd : (ops[i']).dst with
                | none => exact k2
                | some d => exact k2.put_other (hO := hO) ho (j := i') (by unfold dstOf; rw [hi]; exact hd) (Ne.symm hji) (fun hdep => hiV' (topo_deps ht j hj i' hdep)) (fun ha => by
                  have hjlt := hV j hj
                  have hoj : ops[j]? = some ops[j] := Array.getElem?_eq_getElem hjlt
                  have hr := hO.reads j hjlt
                  unfold okReads at hr
                  have h2 := List.all_eq_true.1 hr i' (List.mem_range.2 hlt)
                  rw [ha.1] at h2
                  simp only [Bool.not_true, Bool.false_or, Bool.or_eq_true, Bool.and_eq_true, bne_iff_ne, ne_eq, List.contains_eq_mem, decide_eq_true_eq] at h2
                  have h3 := (h2.resolve_left ha.2).2
                  obtain ⟨e, he, hb, hej⟩ := (mem_deps hi).1 h3
                  have h4 := hall e he hb
                  rw [hej] at h4
                  rw [(getD_tf (by rw [hv.lsz]; exact hjlt)).2 h4] at hjl; cases hjl)
              · cases h
    exact key fuel listed a hef hc hv
theorem drawn_sound (hΓ : GOkS P Γ S) {items : List DI} (hok : okDr P S.nt ops al items = true) {id : Nat} (hQ : ∀ c x w, ¬ Q (.panic c) x w) (hfin : ∀ s' E' a', K s' → Sat S s' E' a' → Q .normal a' E'.w)
  {s : SS} {E : En} {a : Act} (hs : Sat S s E a) (h : runD Γ al items s K) : (Code.region id ops true).wp P Q a E.w := by
 simp only [okDr, Bool.and_eq_true, List.all_eq_true, List.mem_range] at hok
 obtain ⟨⟨⟨⟨⟨hm, hL⟩, hsel⟩, hdst⟩, hreads⟩, hit⟩ := hok
 have hlen : ∀ (l : List Oper) (l' : List AOper), okL P S.nt ops l l' = true → ∀ i o, l[i]? = some o → okO P S.nt ops o (atA l' i) = true := by
  intro l
  induction l with
  | nil => intro l' _ i o h; simp at h
  | cons x l ih =>
   intro l' hl i o h
   cases l' with
   | nil => simp [okL] at hl
   | cons y l' =>
    simp only [okL, Bool.and_eq_true] at hl
    cases i with
    | zero => simp at h; subst h; exact hl.1
    | succ i => exact ih l' hl.2 i o (by simpa using h)
 have dlt : ∀ i d, dstOf ops i = some d → i < ops.size := by
  intro i d h
  unfold dstOf at h
  cases ho : ops[i]? with
  | none => rw [ho] at h; cases h
  | some o => exact (Array.getElem?_eq_some_iff.1 ho).1
 have hO : Okd P S ops al := by
  refine ⟨fun i o hi => hlen _ _ hL i o (by simpa using hi), hsel, fun i j d hi hj => ?_, hreads⟩
  unfold okDst at hdst
  simp only [List.all_eq_true, List.mem_range] at hdst
  have := hdst i (dlt i d hi) j (dlt j d hj)
  rw [hi] at this
  simp only [Bool.or_eq_true, beq_iff_eq, bne_iff_ne, ne_eq] at this
  rcases this with h | h
  ·exact h
  ·exact absurd hj h
 refine wp_region_any hm ?_
 obtain ⟨h1, h2⟩ := hs.hs.same (Chg.drew E.w)
 have hf := hs.fr.ren h2
 rw [frRen_some] at hf
 have hev : Ev s.hp E s.hp { E with w := E.w.drew } := ⟨rfl, rfl, rfl, Nat.le_refl _, fun _ _ _ => rfl, fun _ h => .inl h, fun _ h => h, fun _ h => .inl h, rfl⟩
 have hs' : Sat S s { E with w := E.w.drew } a := ⟨h1, hf, hs.ev.trans hev, hs.id, hs.defers, hs.size⟩
 have hno : ∀ i, (Array.replicate ops.size false).getD i true = true → ¬ i < ops.size := by
  intro i h hi
  rw [Array.getD_eq_getD_getElem?, Array.getElem?_eq_getElem (by simpa using hi)] at h
  simp at h
 refine stage hΓ hO hQ hfin items [] [] ops.size _ s { E with w := E.w.drew } a a hit trivial (by simp) (by simp) ?_ ?_ hs' h
 ·unfold cnt
  exact Nat.le_trans List.countP_le_length (by simp)
 ·exact ⟨hs.defers, rfl, fun _ _ => rfl, (fun j hj => by cases hj), (fun i hi h => absurd hi (hno i h)), (by simp), (fun i hi h => absurd hi (hno i h)), (fun i j hj => by cases hj)⟩
end drawn
end Go.V
namespace Go.V
set_option linter.unusedSimpArgs false
set_option linter.unnecessarySimpa false
set_option linter.unusedVariables false
inductive DT where
 | done
 | q (i : Nat) (r : DT)
 | e (i : Nat) (pend : List Nat) (r alt : DT)
 | no
def chs : DT → List Nat
 | .e i _ _ alt => i :: chs alt
 | _ => []
inductive Ch : DT → Nat → List Nat → DT → Prop where
 | here (i : Nat) (p : List Nat) (r alt : DT) : Ch (.e i p r alt) i p r
 | there {i : Nat} {p : List Nat} {r : DT} (j : Nat) (pj : List Nat) (rj : DT) {alt : DT} (h : Ch alt i p r) : Ch (.e j pj rj alt) i p r
theorem ch_of_mem : ∀ (t : DT) (i : Nat), i ∈ chs t → ∃ p r, Ch t i p r
 | .e j p r alt, i, h => by
  simp only [chs, List.mem_cons] at h
  rcases h with rfl | h
  ·exact ⟨p, r, .here _ _ _ _⟩
  ·obtain ⟨p', r', h'⟩ := ch_of_mem alt i h
   exact ⟨p', r', .there _ _ _ h'⟩
 | .done, i, h => by simp [chs] at h
 | .q _ _, i, h => by simp [chs] at h
 | .no, i, h => by simp [chs] at h
theorem Ch.size {t : DT} {i : Nat} {p : List Nat} {r : DT} (h : Ch t i p r) : SizeOf.sizeOf r < SizeOf.sizeOf t := by
 induction h with
 | here i p r alt => simp; omega
 | there j pj rj h ih => simp; omega
def runT (Γ : List (Nat × Contract)) (al : List AOper) : DT → SS → (SS → Prop) → Prop
 | .done, s, K => K s
 | .q i r, s, K => runE Γ (atA al i) s (fun s' => runT Γ al r s' K) (fun s' => runT Γ al r s' K)
 | .e i pend r alt, s, K => runE Γ (atA al i) s (andK (chkL al pend) (fun s' => runT Γ al r s' K)) (fun s' => runT Γ al r s' K) ∧ runT Γ al alt s K
 | .no, _, _ => True
theorem runT_ch {Γ : List (Nat × Contract)} {al : List AOper} {t : DT} {i : Nat} {p : List Nat} {r : DT} {s : SS} {K : SS → Prop} (h : Ch t i p r) (hr : runT Γ al t s K) :
  runE Γ (atA al i) s (andK (chkL al p) (fun s' => runT Γ al r s' K)) (fun s' => runT Γ al r s' K) := by
 induction h with
 | here i p r alt => simp only [runT] at hr; exact hr.1
 | there j pj rj h ih => simp only [runT] at hr; exact ih hr.2
def okC (ops : Array Oper) (al : List AOper) (n : Nat) (V ef : List Nat) (i : Nat) (pend : List Nat) : Bool :=
 decide (i < n) && !V.contains i && (deps ops i).all V.contains && okPend ops pend && pend.all (fun j => V.contains j && isQ al j) &&
  (V.all fun j => ef.contains j || pend.contains j || (clos ops 4000 (deps ops i) []).contains j)
def okT (ops : Array Oper) (al : List AOper) (n : Nat) : Bool → List Nat → List Nat → DT → Bool
 | b, V, ef, .done => !b && (V.length == n && (List.range n).all V.contains)
 | b, V, ef, .q i r => !b && isQ al i && decide (i < n) && !V.contains i && (deps ops i).all V.contains && ((List.range n).all fun k => !rdsB ops k i || (deps ops k).contains i || ef.contains k) && okT ops al n false (i :: V) ef r
 | b, V, ef, .e i pend r alt => (b || ((List.range n).all fun j => V.contains j || (i :: chs alt).contains j || (deps ops j).any fun k => !V.contains k)) &&
  okC ops al n V ef i pend && okT ops al n false (i :: V) (i :: V.filter (fun j => !pend.contains j)) r && okT ops al n true V ef alt
 | b, _, _, .no => b
theorem okT_ch {ops : Array Oper} {al : List AOper} {n : Nat} {V ef : List Nat} {t : DT} {i : Nat} {p : List Nat} {r : DT} (h : Ch t i p r) : ∀ {b : Bool}, okT ops al n b V ef t = true →
  okC ops al n V ef i p = true ∧ okT ops al n false (i :: V) (i :: V.filter (fun j => !p.contains j)) r = true := by
 induction h with
 | here i p r alt => intro b ht; simp only [okT, Bool.and_eq_true] at ht; exact ⟨ht.1.1.2, ht.1.2⟩
 | there j pj rj h ih => intro b ht; simp only [okT, Bool.and_eq_true] at ht; exact ih ht.2
def okDt (P : Program) (nt : Nat) (ops : Array Oper) (al : List AOper) (t : DT) : Bool :=
 P.follows .mixedOrders && okL P nt ops ops.toList al && Region.noSelect ops && okDst ops ops.size && (List.range ops.size).all (okReads ops ops.size) && okT ops al ops.size false [] [] t
section drawn
variable {P : Program} {S : Start} {Γ : List (Nat × Contract)} {ops : Array Oper} {al : List AOper} {Q : Exit → Act → World → Prop} {K : SS → Prop}
theorem stageT (hΓ : GOkS P Γ S) (hO : Okd P S ops al) (hQ : ∀ c x w, ¬ Q (.panic c) x w) (hfin : ∀ s' E' a', K s' → Sat S s' E' a' → Q .normal a' E'.w) :
    ∀ (items : DT) (V ef : List Nat) (fuel : Nat) (listed : Array Bool) (s : SS) (E : En) (a b : Act), okT ops al ops.size false V ef items = true → topo ops V → (∀ j ∈ V, j < ops.size) → (∀ j ∈ ef, listed.getD j true = true) →
      cnt ops.size listed ≤ fuel → Virt P ops V listed a b E.w → Sat S s E b → runT Γ al items s K → wpAny P .any ops Q fuel listed a E.w
  | .done, V, ef, fuel, listed, s, E, a, b, hok, ht, hV, hef, hc, hv, hs, h => by
    simp only [okT, Bool.and_eq_true, List.all_eq_true, List.mem_range] at hok
    have hok := hok.2
    simp only [runT] at h
    have hall : ∀ i, i < ops.size → i ∈ V := fun i hi => by have := hok.2 i hi; rw [List.contains_eq_mem] at this; simpa using this
    have done : ∀ (listed : Array Bool) (a : Act), Virt P ops V listed a b E.w → (∀ j ∈ V, listed.getD j true = true) → Q .normal a E.w := by
      intro listed a hv hl
      have he : a.tmps = b.tmps := Array.ext_getElem? fun k => hv.same k (fun j hj hjl => by rw [hl j hj] at hjl; cases hjl)
      refine hfin s E a h ⟨hs.hs, fun k => by rw [he]; exact hs.fr k, hs.ev, hs.id, hv.defers, by rw [he]; exact hs.size⟩
    have key : ∀ (fuel : Nat) (listed : Array Bool) (a : Act), cnt ops.size listed ≤ fuel → Virt P ops V listed a b E.w → wpAny P .any ops Q fuel listed a E.w := by
      intro fuel
      induction fuel with
      | zero =>
        intro listed a hc hv
        have hl : ∀ j ∈ V, listed.getD j true = true := by
          intro j hj
          cases hjl : listed.getD j true with
          | true => rfl
          | false => have := cnt_set (hV j hj) hjl hv.lsz; omega
        refine ⟨?_, done listed a hv hl⟩
        cases hr : Region.ready .any ops listed with
        | nil => rfl
        | cons i r =>
          have hi : i ∈ Region.ready .any ops listed := by rw [hr]; simp
          obtain ⟨h1, o, ho, _⟩ := mem_ready.1 hi
          rw [hl i (hall i (Array.getElem?_eq_some_iff.1 ho).1)] at h1; cases h1
      | succ fuel ih =>
        intro listed a hc hv
        refine ⟨fun h0 => done listed a hv (ready_some ht hV hv.lsz h0), fun i hi => ?_⟩
        obtain ⟨h1, o, ho, _⟩ := mem_ready.1 hi
        have hlt := (Array.getElem?_eq_some_iff.1 ho).1
        refine virt_real hv hO.sel (hO.reads i hlt) ho hi (hall i hlt) (fun v hv' => ih _ _ ?_ hv')
        have := cnt_set hlt h1 hv.lsz
        omega
    exact key fuel listed a hc hv
  | .q i r, V, ef, fuel, listed, s, E, a, b, hok, ht, hV, hef, hc, hv, hs, h => by
    simp only [okT, Bool.and_eq_true, decide_eq_true_eq, Bool.not_eq_true', List.all_eq_true] at hok
    obtain ⟨⟨⟨⟨⟨⟨_, hq⟩, hlt⟩, hiV⟩, hdeps⟩, hRr⟩, hokr⟩ := hok
    have hR : ∀ k, Anti ops k i → listed.getD k true = true := by
      rintro k ⟨h1, h2⟩
      have hk : k < ops.size := by
        rcases Nat.lt_or_ge k ops.size with h | h
        · exact h
        · unfold rdsB at h1; rw [Array.getElem?_eq_none h] at h1; cases h1
      have := hRr k (List.mem_range.2 hk)
      rw [h1] at this
      simp only [Bool.not_true, Bool.false_or, Bool.or_eq_true, List.contains_eq_mem, decide_eq_true_eq] at this
      exact hef k (this.resolve_left h2)
    have hiV' : i ∉ V := by rw [List.contains_eq_mem] at hiV; simpa using hiV
    have hdeps' : ∀ j ∈ deps ops i, j ∈ V := fun j hj => by have := hdeps j hj; rw [List.contains_eq_mem] at this; simpa using this
    have hi : ops[i]? = some ops[i] := Array.getElem?_eq_getElem hlt
    have hok := hO.ok i _ hi
    obtain ⟨hdo, hdlt⟩ := okO_dst hok
    unfold isQ at hq
    simp only [Bool.and_eq_true] at hq
    obtain ⟨d, hd⟩ := Option.isSome_iff_exists.1 hq.2
    have hdi : dstOf ops i = some d := by unfold dstOf; rw [hi]; exact hdo.trans hd
    have hdl : d < b.tmps.size := by rw [hs.size]; exact hdlt d hd
    have hV' : ∀ j ∈ i :: V, j < ops.size := fun j hj => by
      rcases List.mem_cons.1 hj with rfl | hj
      · exact hlt
      · exact hV j hj
    have on : ∀ (s2 : SS) (v : Value), Sat S s2 E (b.put (some d) v) → runT Γ al r s2 K → ((Region.wanted ops[i] (yielded ops b.tmps) = true ∧ (execOp b.eval ops[i]).run P E.w = .ok (.value v) E.w) ∨ (Region.wanted ops[i] (yielded ops b.tmps) = false ∧ v = undef)) →
        wpAny P .any ops Q fuel listed a E.w := fun s2 v hs2 hk hy =>
      stageT hΓ hO hQ hfin r (i :: V) ef fuel listed s2 E a _ hokr ⟨hdeps', ht⟩ hV' hef hc (virt_ahead hO hv ht hlt hiV' hdeps' hdi hdl hR hy) hs2 hk
    simp only [runT] at h
    unfold runE at h
    split at h
    · rename_i hg
      unfold step at h
      rw [hq.1] at h
      obtain ⟨x, v, hk, hx, hr⟩ := quiet_run hok hq.1 hs h
      rw [hd] at hk
      exact on _ v (hs.put (fun k hk' => by cases hk'; exact hdlt d hd) hx) hk (.inl ⟨okO_noguard hok hg b, hr⟩)
    · rename_i slot want hg
      split at h
      · rename_i c hcc
        have hw := okO_guard hok hg hs hcc
        have hslot : den E (.bool c) (b.tmps.getD slot undef) := by rw [← hcc]; exact hs.fr slot
        have hself : ∀ c' : Bool, c = c' → Sat S (s.put (some slot) (.bool c')) E b := by
          intro c' hc'
          refine hs.frame (fun k => ?_)
          rw [lkF_up]
          split
          · rename_i hk; subst hk; subst hc'; exact hslot
          · exact hs.fr k
        cases hcw : c == want with
        | true =>
          have h1 := sw_true h hcw
          have hcw' : c = want := by simpa using hcw
          unfold step at h1
          rw [hq.1] at h1
          obtain ⟨x, v, hk, hx, hr⟩ := quiet_run hok hq.1 (hself want hcw') h1
          rw [hd] at hk
          exact on _ v ((hself want hcw').put (fun k hk' => by cases hk'; exact hdlt d hd) hx) hk (.inl ⟨by rw [hw, hcw], hr⟩)
        | false =>
          have h1 := sw_false h hcw
          have hcw' : c = !want := by cases c <;> cases want <;> simp at hcw ⊢
          rw [hd] at h1
          exact on _ undef ((hself _ hcw').put (d := some d) (x := .tup []) (fun k hk' => by cases hk'; exact hdlt d hd) den_undef) h1 (.inr ⟨by rw [hw, hcw], rfl⟩)
      · rename_i hcc
        have hw := okO_guardT (ops := ops) hok hg hs hcc
        rw [hd] at h
        exact on _ undef (hs.put (d := some d) (x := .tup []) (fun k hk' => by cases hk'; exact hdlt d hd) den_undef) h (.inr ⟨hw, rfl⟩)
      · cases h
  | .e i0 pend0 r0 alt, V, ef, fuel, listed, s, E, a, b, hok0, ht, hV, hef, hc, hv, hs, h0 => by
    have mem : ∀ (l : List Nat) (x : Nat), l.contains x = true → x ∈ l := fun l x h => by rw [List.contains_eq_mem] at h; simpa using h
    have hC6 : ∀ j, j < ops.size → (V.contains j = true ∨ j ∈ chs (.e i0 pend0 r0 alt)) ∨ ∃ k ∈ deps ops j, V.contains k = false := by
      intro j hj
      simp only [okT, Bool.and_eq_true, Bool.or_eq_true, Bool.false_or, List.all_eq_true, List.mem_range, List.any_eq_true, Bool.not_eq_true'] at hok0
      rcases hok0.1.1.1 j hj with (h | h) | h
      · exact .inl (.inl h)
      · exact .inl (.inr (by simp only [chs]; exact mem _ _ h))
      · exact .inr h
    obtain ⟨hlt0, hiV0, hdeps0⟩ : i0 < ops.size ∧ i0 ∉ V ∧ ∀ j ∈ deps ops i0, j ∈ V := by
      have h1 := (okT_ch (.here i0 pend0 r0 alt) hok0).1
      simp only [okC, Bool.and_eq_true, decide_eq_true_eq, Bool.not_eq_true', List.all_eq_true] at h1
      obtain ⟨⟨⟨⟨⟨hlt, hiV⟩, hdeps⟩, _⟩, _⟩, _⟩ := h1
      exact ⟨hlt, by rw [List.contains_eq_mem] at hiV; simpa using hiV, fun j hj => mem _ _ (hdeps j hj)⟩
    have key : ∀ (fuel : Nat) (listed : Array Bool) (a : Act), (∀ j ∈ ef, listed.getD j true = true) → cnt ops.size listed ≤ fuel → Virt P ops V listed a b E.w → wpAny P .any ops Q fuel listed a E.w := by
      intro fuel
      induction fuel with
      | zero =>
        intro listed a _ hc hv
        exfalso
        have hun : listed.getD i0 true = false := by
          cases hl : listed.getD i0 true with
          | false => rfl
          | true => exact absurd (hv.sub i0 hlt0 hl) hiV0
        have := cnt_set hlt0 hun hv.lsz
        omega
      | succ fuel ih =>
        intro listed a hef hc hv
        have hun : listed.getD i0 true = false := by
          cases hl : listed.getD i0 true with
          | false => rfl
          | true => exact absurd (hv.sub i0 hlt0 hl) hiV0
        refine ⟨fun hr0 => ?_, fun i' hi' => ?_⟩
        · exfalso
          have hl := ready_some ht hV hv.lsz hr0
          have := ready_of hlt0 hv.lsz hun (fun j hj => ⟨hV j (hdeps0 j hj), hl j (hdeps0 j hj)⟩)
          rw [hr0] at this; cases this
        · obtain ⟨h1, o, ho, hall⟩ := mem_ready.1 hi'
          have hlt' := (Array.getElem?_eq_some_iff.1 ho).1
          by_cases hi'V : i' ∈ V
          · refine virt_real hv hO.sel (hO.reads i' hlt') ho hi' hi'V (fun v hv' => ih _ _ (fun j hj => ?_) ?_ hv')
            · by_cases hji : j = i'
              · subst hji; rw [set_self (by rw [hv.lsz]; exact hlt')]
              · rw [set_ne hji]; exact hef j hj
            · have := cnt_set hlt' h1 hv.lsz
              omega
          · have hmem : i' ∈ chs (.e i0 pend0 r0 alt) := by
              rcases hC6 i' hlt' with (h | h) | ⟨k, hk, hkV⟩
              · exact absurd (mem _ _ h) hi'V
              · exact h
              · exfalso
                obtain ⟨e, he, hb, rfl⟩ := (mem_deps ho).1 hk
                have h2 := hall e he hb
                have hklt : e.on < ops.size := by
                  rcases Nat.lt_or_ge e.on ops.size with h' | h'
                  · exact h'
                  · rw [Array.getD_eq_getD_getElem?, Array.getElem?_eq_none (by rw [hv.lsz]; exact h')] at h2; cases h2
                have := hv.sub e.on hklt ((getD_tf (by rw [hv.lsz]; exact hklt)).2 h2)
                rw [List.contains_eq_mem] at hkV
                simp [this] at hkV
            obtain ⟨pend, r, hch⟩ := ch_of_mem _ _ hmem
            have hsize := hch.size
            obtain ⟨hokc, hokr⟩ := okT_ch hch hok0
            have h := runT_ch hch h0
            simp only [okC, Bool.and_eq_true, decide_eq_true_eq, Bool.not_eq_true', List.all_eq_true, Bool.or_eq_true] at hokc
            obtain ⟨⟨⟨⟨⟨hlt, hiV⟩, hdeps⟩, hpend⟩, hpq⟩, hC2⟩ := hokc
            have hiV' : i' ∉ V := by rw [List.contains_eq_mem] at hiV; simpa using hiV
            have hdeps' : ∀ j ∈ deps ops i', j ∈ V := fun j hj => mem _ _ (hdeps j hj)
            have hi : ops[i']? = some ops[i'] := Array.getElem?_eq_getElem hlt
            have hok := hO.ok i' _ hi
            obtain ⟨hdo, hdlt⟩ := okO_dst hok
            have hV' : ∀ j ∈ i' :: V, j < ops.size := fun j hj => by
              rcases List.mem_cons.1 hj with rfl | hj
              · exact hlt
              · exact hV j hj
            have hpV : ∀ j ∈ pend, j ∈ V := fun j hj => mem _ _ (hpq j hj).1
            have hC2' : ∀ j ∈ V, j ∈ ef ∨ j ∈ pend ∨ j ∈ clos ops 4000 (deps ops i') [] := fun j hj => by
              rcases hC2 j hj with (h | h) | h
              · exact .inl (mem _ _ h)
              · exact .inr (.inl (mem _ _ h))
              · exact .inr (.inr (mem _ _ h))
            rw [hi] at ho; cases ho
            obtain ⟨he, hw⟩ := ready_like hv hO.sel (hO.reads i' hlt) hi hi'
            have hcl := clos_listed hv hV hlt hdeps' hi'
            have hef' : ∀ j ∈ i' :: V.filter (fun j => !pend.contains j), (listed.setIfInBounds i' true).getD j true = true := fun j hj => by
              by_cases hji : j = i'
              · subst hji; rw [set_self (by rw [hv.lsz]; exact hlt)]
              · rw [set_ne hji]
                rcases List.mem_cons.1 hj with e | hj
                · exact absurd e hji
                · obtain ⟨hj1, hj2⟩ := List.mem_filter.1 hj
                  rcases hC2' j hj1 with h | h | h
                  · exact hef j h
                  · rw [List.contains_eq_mem] at hj2; simp [h] at hj2
                  · exact hcl j h
            have hc' : cnt ops.size (listed.setIfInBounds i' true) ≤ fuel := by have := cnt_set hlt h1 hv.lsz; omega
            have eff1 : ∀ (s0 : SS), Sat S s0 E b → step Γ (atA al i') s0 (andK (chkL al pend) fun s' => runT Γ al r s' K) →
                (ops[i']).wp P a E.w (wpAny P .any ops Q fuel (listed.setIfInBounds i' true)) Q := by
              intro s0 hs0 hst
              refine wp_like he hv.size hQ (step_sound hΓ hok hs0 hst fun s' E' v hk hs' => ?_)
              obtain ⟨hk1, hk2⟩ := hk
              obtain ⟨b', r1, r2, r3, r4⟩ := rerun hO (listed := listed.setIfInBounds i' true) pend _ hpend (fun j hj => ⟨hV j (hpV j hj), (hpq j hj).2⟩) hs' hk1
              exact ⟨v, rfl, stageT hΓ hO hQ hfin r (i' :: V) (i' :: V.filter (fun j => !pend.contains j)) fuel _ s' E' _ b' hokr ⟨hdeps', ht⟩ hV' hef' hc'
                (virt_done hO hv hV hlt hiV' hdeps' hi' hef hpV hC2' r2 r3 r4) r1 hk2⟩
            unfold runE at h
            unfold wpOp
            rw [hi]
            simp only
            rw [hw]
            split at h
            · rename_i hg
              rw [okO_noguard hok hg b, if_pos rfl]
              exact .inl (eff1 s hs h)
            · rename_i slot want hg
              split at h
              · rename_i c hcc
                rw [okO_guard hok hg hs hcc]
                have hslot : den E (.bool c) (b.tmps.getD slot undef) := by rw [← hcc]; exact hs.fr slot
                have hself : ∀ c' : Bool, c = c' → Sat S (s.put (some slot) (.bool c')) E b := by
                  intro c' hc'
                  refine hs.frame (fun k => ?_)
                  rw [lkF_up]
                  split
                  · rename_i hk; subst hk; subst hc'; exact hslot
                  · exact hs.fr k
                cases hcw : c == want with
                | true =>
                  rw [if_pos rfl]
                  exact .inl (eff1 _ (hself want (by simpa using hcw)) (sw_true h hcw))
                | false =>
                  rw [if_neg (by simp)]
                  have h3 := sw_false h hcw
                  have hcw' : c = !want := by cases c <;> cases want <;> simp at hcw ⊢
                  refine stageT hΓ hO hQ hfin r (i' :: V) (i' :: V.filter (fun j => !pend.contains j)) fuel _ _ E _ (b.put (ops[i']).dst undef) hokr ⟨hdeps', ht⟩ hV' hef' hc' ?_ (by rw [hdo]; exact (hself _ hcw').put hdlt den_undef) h3
                  refine virt_done hO hv hV hlt hiV' hdeps' hi' hef (fun j hj => hj) (fun j hj => .inr (.inl hj)) rfl (fun _ _ => rfl) (fun j hj hjl o ho => ?_)
                  have hji : j ≠ i' := fun e => hiV' (e ▸ hj)
                  rw [set_ne hji] at hjl
                  obtain ⟨k1, k2⟩ := hv.ahead j hj hjl o ho
                  refine ⟨k1, ?_⟩
                  cases hd : (ops[i']).dst with
                  | none => exact k2
                  | some d => exact k2.put_other (hO := hO) ho (j := i') (by unfold dstOf; rw [hi]; exact hd) (Ne.symm hji) (fun hdep => hiV' (topo_deps ht j hj i' hdep)) (fun ha => by
                    have hjlt := hV j hj
                    have hoj : ops[j]? = some ops[j] := Array.getElem?_eq_getElem hjlt
                    have hr := hO.reads j hjlt
                    unfold okReads at hr
                    have h2 := List.all_eq_true.1 hr i' (List.mem_range.2 hlt)
                    rw [ha.1] at h2
                    simp only [Bool.not_true, Bool.false_or, Bool.or_eq_true, Bool.and_eq_true, bne_iff_ne, ne_eq, List.contains_eq_mem, decide_eq_true_eq] at h2
                    have h3 := (h2.resolve_left ha.2).2
                    obtain ⟨e, he, hb, hej⟩ := (mem_deps hi).1 h3
                    have h4 := hall e he hb
                    rw [hej] at h4
                    rw [(getD_tf (by rw [hv.lsz]; exact hjlt)).2 h4] at hjl; cases hjl)
              · rename_i hcc
                rw [okO_guardT (ops := ops) hok hg hs hcc, if_neg (by simp)]
                refine stageT hΓ hO hQ hfin r (i' :: V) (i' :: V.filter (fun j => !pend.contains j)) fuel _ _ E _ (b.put (ops[i']).dst undef) hokr ⟨hdeps', ht⟩ hV' hef' hc' ?_ (by rw [hdo]; exact hs.put hdlt den_undef) h
                refine virt_done hO hv hV hlt hiV' hdeps' hi' hef (fun j hj => hj) (fun j hj => .inr (.inl hj)) rfl (fun _ _ => rfl) (fun j hj hjl o ho => ?_)
                have hji : j ≠ i' := fun e => hiV' (e ▸ hj)
                rw [set_ne hji] at hjl
                obtain ⟨k1, k2⟩ := hv.ahead j hj hjl o ho
                refine ⟨k1, ?_⟩
                cases hd : (ops[i']).dst with
                | none => exact k2
                | some d => exact k2.put_other (hO := hO) ho (j := i') (by unfold dstOf; rw [hi]; exact hd) (Ne.symm hji) (fun hdep => hiV' (topo_deps ht j hj i' hdep)) (fun ha => by
                  have hjlt := hV j hj
                  have hoj : ops[j]? = some ops[j] := Array.getElem?_eq_getElem hjlt
                  have hr := hO.reads j hjlt
                  unfold okReads at hr
                  have h2 := List.all_eq_true.1 hr i' (List.mem_range.2 hlt)
                  rw [ha.1] at h2
                  simp only [Bool.not_true, Bool.false_or, Bool.or_eq_true, Bool.and_eq_true, bne_iff_ne, ne_eq, List.contains_eq_mem, decide_eq_true_eq] at h2
                  have h3 := (h2.resolve_left ha.2).2
                  obtain ⟨e, he, hb, hej⟩ := (mem_deps hi).1 h3
                  have h4 := hall e he hb
                  rw [hej] at h4
                  rw [(getD_tf (by rw [hv.lsz]; exact hjlt)).2 h4] at hjl; cases hjl)
              · cases h
    exact key fuel listed a hef hc hv
  | .no, V, ef, fuel, listed, s, E, a, b, hok, _, _, _, _, _, _, _ => by simp [okT] at hok
termination_by items => SizeOf.sizeOf items
decreasing_by
 all_goals first
  | (simp; omega)
  | (simpa using hsize)
theorem drawnT_sound (hΓ : GOkS P Γ S) {items : DT} (hok : okDt P S.nt ops al items = true) {id : Nat} (hQ : ∀ c x w, ¬ Q (.panic c) x w) (hfin : ∀ s' E' a', K s' → Sat S s' E' a' → Q .normal a' E'.w)
  {s : SS} {E : En} {a : Act} (hs : Sat S s E a) (h : runT Γ al items s K) : (Code.region id ops true).wp P Q a E.w := by
 simp only [okDt, Bool.and_eq_true, List.all_eq_true, List.mem_range] at hok
 obtain ⟨⟨⟨⟨⟨hm, hL⟩, hsel⟩, hdst⟩, hreads⟩, hit⟩ := hok
 have hlen : ∀ (l : List Oper) (l' : List AOper), okL P S.nt ops l l' = true → ∀ i o, l[i]? = some o → okO P S.nt ops o (atA l' i) = true := by
  intro l
  induction l with
  | nil => intro l' _ i o h; simp at h
  | cons x l ih =>
   intro l' hl i o h
   cases l' with
   | nil => simp [okL] at hl
   | cons y l' =>
    simp only [okL, Bool.and_eq_true] at hl
    cases i with
    | zero => simp at h; subst h; exact hl.1
    | succ i => exact ih l' hl.2 i o (by simpa using h)
 have dlt : ∀ i d, dstOf ops i = some d → i < ops.size := by
  intro i d h
  unfold dstOf at h
  cases ho : ops[i]? with
  | none => rw [ho] at h; cases h
  | some o => exact (Array.getElem?_eq_some_iff.1 ho).1
 have hO : Okd P S ops al := by
  refine ⟨fun i o hi => hlen _ _ hL i o (by simpa using hi), hsel, fun i j d hi hj => ?_, hreads⟩
  unfold okDst at hdst
  simp only [List.all_eq_true, List.mem_range] at hdst
  have := hdst i (dlt i d hi) j (dlt j d hj)
  rw [hi] at this
  simp only [Bool.or_eq_true, beq_iff_eq, bne_iff_ne, ne_eq] at this
  rcases this with h | h
  ·exact h
  ·exact absurd hj h
 refine wp_region_any hm ?_
 obtain ⟨h1, h2⟩ := hs.hs.same (Chg.drew E.w)
 have hf := hs.fr.ren h2
 rw [frRen_some] at hf
 have hev : Ev s.hp E s.hp { E with w := E.w.drew } := ⟨rfl, rfl, rfl, Nat.le_refl _, fun _ _ _ => rfl, fun _ h => .inl h, fun _ h => h, fun _ h => .inl h, rfl⟩
 have hs' : Sat S s { E with w := E.w.drew } a := ⟨h1, hf, hs.ev.trans hev, hs.id, hs.defers, hs.size⟩
 have hno : ∀ i, (Array.replicate ops.size false).getD i true = true → ¬ i < ops.size := by
  intro i h hi
  rw [Array.getD_eq_getD_getElem?, Array.getElem?_eq_getElem (by simpa using hi)] at h
  simp at h
 refine stageT hΓ hO hQ hfin items [] [] ops.size _ s { E with w := E.w.drew } a a hit trivial (by simp) (by simp) ?_ ?_ hs' h
 ·unfold cnt
  exact Nat.le_trans List.countP_le_length (by simp)
 ·exact ⟨hs.defers, rfl, fun _ _ => rfl, (fun j hj => by cases hj), (fun i hi h => absurd hi (hno i h)), (by simp), (fun i hi h => absurd hi (hno i h)), (fun i j hj => by cases hj)⟩
end drawn
end Go.V
namespace Go.V
set_option linter.unusedSimpArgs false
set_option linter.unnecessarySimpa false
set_option linter.unusedVariables false
def rowsOf (hp : List SB) (x : SV) : List Nat :=
 match x with
 | .ptr i _ => match hp[i]? with
  | some (.struct cells) => SV.rowsL cells
  | _ => []
 | x => x.rows
def frzS (s : SS) (x : SV) : SS := (frzAll s [] (rowsOf s.hp x)).1
def swpF (i j : Nat) : Nat → Option Nat := fun a => bif a == j then some i else (bif a == i then none else some a)
def cellV (b : Option SB) (off : Nat) (n : Option Nat) : Option SV :=
 match b with
 | some (.struct cells) => match n with
  | none => headO (dropC cells off)
  | some m => takeO (dropC cells off) m
 | _ => none
def swp2 (s : SS) (i j : Nat) (b : Option SB) : SS :=
 match b with
 | some (.row _ eb t xs) => ⟨frRen (swpF i j) s.fr, ((s.hp.map (SB.ren (swpF i j))).set j .gone).set i (.row true eb t xs)⟩
 | _ => s
def isRow (b : Option SB) : Bool :=
 match b with
 | some (.row _ _ _ _) => true
 | _ => false
def swp3 (s : SS) (i : Nat) (b : Option SB) : SS :=
 match b with
 | some (.row _ eb t xs) => setS s i (.row true eb t xs)
 | _ => s
def swpS (s : SS) (i : Nat) (x : Option SV) : SS :=
 match x with
 | some (.own j) => match j == i || !isRow (s.hp[i]?) with
  | true => swp3 s i (s.hp[i]?)
  | false => swp2 s i j (s.hp[j]?)
 | _ => s
section
variable {S : Start} {s : SS} {E : En} {a : Act}
theorem frzS_sat (hs : Sat S s E a) (x : SV) : ∃ E', E'.w = E.w ∧ Sat S (frzS s x) E' a := by
 obtain ⟨E', h1, h2, _⟩ := frzAll_sound (rowsOf s.hp x) s [] E [] hs (by simp only [denC])
 exact ⟨E', h1, h2⟩
theorem swp2_sat (hs : Sat S s E a) {i j : Nat} {mv : Bool} {eb : Nat} {t : Ty} {xs : List t.den} (hij : j ≠ i) (hi : isRow (s.hp[i]?) = true) (hj : s.hp[j]? = some (.row mv eb t xs)) : ∃ E', E'.w = E.w ∧ Sat S (swp2 s i j (s.hp[j]?)) E' a := by
 have hilt : i < s.hp.length := by
  rcases Nat.lt_or_ge i s.hp.length with h | h
  ·exact h
  ·rw [List.getElem?_eq_none h] at hi; cases hi
 have hjlt : j < s.hp.length := (List.getElem?_eq_some_iff.1 hj).1
 rw [hj]
 simp only [swp2]
 have hren : Ren E { E with ρ := upR E.ρ i (E.ρ j) } (swpF i j) := by
  refine ⟨fun p q hp hpq => ?_, fun _ h => h, fun _ h => .inl h, fun _ _ => rfl⟩
  unfold swpF at hpq
  by_cases h1 : p = j
  ·subst h1
   simp only [beq_self_eq_true, cond_true, Option.some.injEq] at hpq
   subst hpq
   exact ⟨by rw [hs.hs.n]; exact hilt, upd_same _ _ _⟩
  ·by_cases h2 : p = i
   ·subst h2
    have e : (p == j) = false := beq_eq_false_iff_ne.2 h1
    simp [e] at hpq
   ·have e1 : (p == j) = false := beq_eq_false_iff_ne.2 h1
    have e2 : (p == i) = false := beq_eq_false_iff_ne.2 h2
    have : q = p := by
     rw [e1, e2] at hpq
     simp only [cond_false, Option.some.injEq] at hpq
     exact hpq.symm
    subst this
    exact ⟨hp, upd_other _ _ h2⟩
 have hget : ∀ (k : Nat) sk, (((s.hp.map (SB.ren (swpF i j))).set j .gone).set i (.row true eb t xs))[k]? = some sk → (k = i ∧ sk = .row true eb t xs) ∨ (k = j ∧ sk = .gone) ∨ (k ≠ i ∧ k ≠ j ∧ ∃ s0, s.hp[k]? = some s0 ∧ sk = s0.ren (swpF i j)) := by
  intro k sk h
  rw [List.getElem?_set] at h
  split at h
  ·rename_i hk
   subst hk
   rw [if_pos (by simpa using hilt)] at h
   cases h
   exact .inl ⟨rfl, rfl⟩
  ·rename_i hk
   rw [List.getElem?_set] at h
   split at h
   ·rename_i hk2
    subst hk2
    rw [if_pos (by simpa using hjlt)] at h
    cases h
    exact .inr (.inl ⟨rfl, rfl⟩)
   ·rename_i hk2
    rw [List.getElem?_map] at h
    cases hs0 : s.hp[k]? with
    | none => rw [hs0] at h; cases h
    | some s0 => rw [hs0] at h; cases h; exact .inr (.inr ⟨fun e => hk e.symm, fun e => hk2 e.symm, s0, rfl, rfl⟩)
 have horig : ∀ (k : Nat) sk, (((s.hp.map (SB.ren (swpF i j))).set j .gone).set i (.row true eb t xs))[k]? = some sk → sk.live = true →
   ∃ k0 s0, s.hp[k0]? = some s0 ∧ s0.live = true ∧ upR E.ρ i (E.ρ j) k = E.ρ k0 ∧ k0 = (if k = i then j else k) := by
  intro k sk h hl
  rcases hget k sk h with ⟨rfl, rfl⟩ | ⟨rfl, rfl⟩ | ⟨h1, h2, s0, h3, rfl⟩
  ·exact ⟨j, _, hj, rfl, upd_same _ _ _, by rw [if_pos rfl]⟩
  ·simp [SB.live] at hl
  ·rw [SB.live_ren] at hl
   exact ⟨k, s0, h3, hl, upd_other _ _ h1, by rw [if_neg h1]⟩
 have hlv : ∀ b, Lv (((s.hp.map (SB.ren (swpF i j))).set j .gone).set i (.row true eb t xs)) { E with ρ := upR E.ρ i (E.ρ j) } b → Lv s.hp E b := by
  rintro b ⟨k, sk, hk, hl, hb⟩
  obtain ⟨k0, s0, h1, h2, h3, _⟩ := horig k sk hk hl
  simp only at hb
  rw [h3] at hb
  exact ⟨k0, s0, h1, h2, hb⟩
 refine ⟨{ E with ρ := upR E.ρ i (E.ρ j) }, rfl, ⟨⟨?_, ?_, ?_, ?_, ?_⟩, hs.fr.ren hren, ?_, ?_, hs.defers, hs.size⟩⟩
 ·simp [hs.hs.n]
 ·intro k sk hk
  rcases hget k sk hk with ⟨rfl, rfl⟩ | ⟨rfl, rfl⟩ | ⟨h1, h2, s0, h3, rfl⟩
  ·show SBok _ (upR E.ρ k (E.ρ j) k) _
   rw [upd_same]
   exact hs.hs.ok j _ hj
  ·trivial
  ·show SBok _ (upR E.ρ i (E.ρ j) k) _
   rw [upd_other _ _ h1]
   exact SBok.ren hren (fun _ _ _ => rfl) (hs.hs.ok k s0 h3)
 ·intro p q sp sq b hp hq hpl hql hpb hqb
  obtain ⟨p0, s1, a1, a2, a3, a4⟩ := horig p sp hp hpl
  obtain ⟨q0, s2, b1, b2, b3, b4⟩ := horig q sq hq hql
  simp only at hpb hqb
  rw [a3] at hpb
  rw [b3] at hqb
  have e := hs.hs.dist _ _ _ _ b a1 b1 a2 b2 hpb hqb
  have np : p ≠ j := by
   rintro rfl
   rcases hget p sp hp with ⟨h, _⟩ | ⟨_, rfl⟩ | ⟨_, h, _⟩
   ·exact hij h
   ·simp [SB.live] at hpl
   ·exact h rfl
  have nq : q ≠ j := by
   rintro rfl
   rcases hget q sq hq with ⟨h, _⟩ | ⟨_, rfl⟩ | ⟨_, h, _⟩
   ·exact hij h
   ·simp [SB.live] at hql
   ·exact h rfl
  rw [a4, b4] at e
  by_cases h1 : p = i
  ·by_cases h2 : q = i
   ·rw [h1, h2]
   ·rw [if_pos h1, if_neg h2] at e; exact absurd e.symm nq
  ·by_cases h2 : q = i
   ·rw [if_neg h1, if_pos h2] at e; exact absurd e np
   ·rw [if_neg h1, if_neg h2] at e; exact e
 ·intro b hb
  exact hs.hs.own b (hlv b hb)
 ·exact hs.hs.old
 ·exact hs.ev.trans ⟨rfl, rfl, rfl, Nat.le_refl _, fun _ _ _ => rfl, fun b hb => .inl (hlv b hb), fun _ h => h, fun _ h => .inl h, rfl⟩
 ·refine ⟨by simpa using hs.id.le, fun k sk hk hsk => ?_⟩
  rcases hget k sk hsk with ⟨rfl, rfl⟩ | ⟨rfl, rfl⟩ | ⟨h1, h2, s0, h3, rfl⟩
  ·trivial
  ·trivial
  ·show idok _ _ (upR E.ρ i (E.ρ j) k)
   rw [upd_other _ _ h1]
   exact idok_ren (hs.id.id k s0 hk h3)
theorem swpS_sat (hs : Sat S s E a) (i : Nat) (x : Option SV) : ∃ E', E'.w = E.w ∧ Sat S (swpS s i x) E' a := by
 unfold swpS
 split
 ·rename_i j
  split
  ·cases hi : s.hp[i]? with
   | none => exact ⟨E, rfl, by simpa [swp3] using hs⟩
   | some b =>
    cases b with
    | row mv eb t xs =>
     refine ⟨E, rfl, ?_⟩
     have h0 : SBok E (E.ρ i) (.row mv eb t xs) := hs.hs.ok i _ hi
     have := hs.setSame (sb' := .row true eb t xs) hi rfl (w' := E.w) (Chg.refl _ _) h0 rfl (fun rv0 _ => trivial)
     exact this
    | _ => exact ⟨E, rfl, by simpa [swp3] using hs⟩
  ·rename_i hb
   simp only [Bool.or_eq_false_iff, beq_eq_false_iff_ne, ne_eq, Bool.not_eq_false'] at hb
   cases hj : s.hp[j]? with
   | none => exact ⟨E, rfl, by simpa [swp2] using hs⟩
   | some b =>
    cases b with
    | row mv eb t xs =>
     have := swp2_sat hs hb.1 hb.2 hj
     rw [hj] at this
     exact this
    | _ => exact ⟨E, rfl, by simpa [swp2] using hs⟩
 ·exact ⟨E, rfl, hs⟩
end
end Go.V
namespace Go.V
set_option linter.unusedSimpArgs false
set_option linter.unnecessarySimpa false
set_option linter.unusedVariables false
inductive AS where
 | skip
 | reg (ops : List AOper) (keep : List Nat)
 | regD (ops : List AOper) (items : List DI) (keep : List Nat)
 | regT (ops : List AOper) (items : DT) (keep : List Nat)
 | seq (a b : AS)
 | cond (c : Opd) (a b : AS)
 | block (id : Nat) (body : AS)
 | loop (id : Nat) (keep : List Nat) (body : AS)
 | exit (id : Nat)
 | ret
 | lift (d : Nat) (k : Option Nat) (eb : Nat) (t : Ty) (x : AS)
 | frz (d : Nat) (x : AS)
 | swp (i r c : Nat) (x : AS)
 | no
inductive AE where
 | normal
 | exit (id : Nat)
 | ret
structure LoopAnn where
 G : Type
 I : G → SS
 R : G → G → Prop
 μ : G → Nat
def lkA : List (Nat × LoopAnn) → Nat → Option LoopAnn
 | [], _ => none
 | (k, c) :: r, n => bif k == n then some c else lkA r n
def refsHp : Nat → List SB → List Nat
 | 0, _ => []
 | _, [] => []
 | n + 1, b :: r => b.refs ++ refsHp n r
def refsFr : List (Nat × SV) → List Nat
 | [] => []
 | x :: r => x.2.refs ++ refsFr r
def canonI (fr : List (Nat × SV)) (hp : List SB) (idx : List Nat) : SS := ⟨frRen (posOf idx) fr, selHp idx (posOf idx) hp⟩
def canon (n0 : Nat) (keep : List Nat) (s : SS) : SS :=
 canonI (keepF keep s.fr) s.hp (reach s.hp 400 (refsHp n0 s.hp ++ refsFr (keepF keep s.fr)) (List.range n0))
def loopI (A : LoopAnn) (n0 : Nat) (keep : List Nat) (s : SS) (g0 : A.G) (body : (SS → Prop) → SS → Prop) : Prop :=
 canon n0 keep s = A.I g0 ∧ A.R g0 g0 ∧ ∀ g, A.R g0 g → body (fun s' => ∃ g', canon n0 keep s' = A.I g' ∧ A.R g0 g' ∧ A.μ g' < A.μ g) (A.I g)
def contQ (Q : AE → SS → Prop) (K : SS → Prop) : AE → SS → Prop
 | .normal, s => K s
 | e, s => Q e s
def blockQ (id : Nat) (Q : AE → SS → Prop) : AE → SS → Prop
 | .exit id', s => match id' == id with
  | true => Q .normal s
  | false => Q (.exit id') s
 | e, s => Q e s
def liftC (s : SS) (i : Nat) (off : Nat) (eb : Nat) (t : Ty) (cells : Option (List SV)) (x : Option SV) : SS :=
 match x with
 | some .nils => match cells with
  | some cells => match splC cells off [.own s.hp.length] with
   | some cells' => setS (pushS s (.row true eb t [])) i (.struct cells')
   | none => s
  | none => s
 | _ => s
def cellsOf (b : Option SB) : Option (List SV) :=
 match b with
 | some (.struct cells) => some cells
 | _ => none
def liftS (s : SS) (d : Nat) (k : Option Nat) (eb : Nat) (t : Ty) (x : SV) : SS :=
 match k with
 | none => match x with
  | .nils => ⟨upF s.fr d (.own s.hp.length), s.hp ++ [.row true eb t []]⟩
  | _ => s
 | some k => match x with
  | .ptr i off => liftC s i (off + k) eb t (cellsOf (s.hp[i]?)) (cellV (s.hp[i]?) (off + k) none)
  | _ => s
def rc (Γ : List (Nat × Contract)) (L : List (Nat × LoopAnn)) (n0 : Nat) : AS → (AE → SS → Prop) → SS → Prop
 | .skip, Q, s => Q .normal s
 | .reg ops keep, Q, s => runL Γ ops s (fun s' => Q .normal ⟨keepF keep s'.fr, s'.hp⟩)
 | .regD ops items keep, Q, s => runD Γ ops items s (fun s' => Q .normal ⟨keepF keep s'.fr, s'.hp⟩)
 | .regT ops items keep, Q, s => runT Γ ops items s (fun s' => Q .normal ⟨keepF keep s'.fr, s'.hp⟩)
 | .seq x y, Q, s => rc Γ L n0 x (contQ Q (rc Γ L n0 y Q)) s
 | .cond c x y, Q, s => match s.get c with
  | .bool b => sw b (rc Γ L n0 x Q s) (rc Γ L n0 y Q s)
  | _ => False
 | .block id x, Q, s => rc Γ L n0 x (blockQ id Q) s
 | .loop id keep x, Q, s => match lkA L id with
  | some A => ∃ g0, loopI A n0 keep s g0 (fun K s' => rc Γ L n0 x (contQ Q K) s')
  | none => False
 | .exit id, Q, s => Q (.exit id) s
 | .ret, Q, s => Q .ret s
 | .lift d k eb t x, Q, s => rc Γ L n0 x Q (liftS s d k eb t (lkF s.fr d))
 | .frz d x, Q, s => rc Γ L n0 x Q (frzS s (lkF s.fr d))
 | .swp i r c x, Q, s => rc Γ L n0 x Q (swpS s i (cellV (s.hp[r]?) c none))
 | .no, _, _ => False
def okS (P : Program) (nt : Nat) : Code → AS → Bool
 | c, .skip => match c with | .skip => true | _ => false
 | c, .reg al _ => match c with | .region _ ops false => okL P nt ops ops.toList al | _ => false
 | c, .regD al items _ => match c with | .region _ ops true => okDr P nt ops al items | _ => false
 | c, .regT al items _ => match c with | .region _ ops true => okDt P nt ops al items | _ => false
 | c, .seq x y => match c with | .seq a b => okS P nt a x && okS P nt b y | _ => false
 | c, .cond p x y => match c with | .cond q a b => okOpd q p && okS P nt a x && okS P nt b y | _ => false
 | c, .block i x => match c with | .block j a => (j == i) && okS P nt a x | _ => false
 | c, .loop _ _ x => match c with | .loop a => okS P nt a x | _ => false
 | c, .exit i => match c with | .exit j => j == i | _ => false
 | c, .ret => match c with | .ret => true | _ => false
 | c, .lift _ _ _ _ x => okS P nt c x
 | c, .frz _ x => okS P nt c x
 | c, .swp _ _ _ x => okS P nt c x
 | _, .no => true
def settleT (s : SS) (t : Nat) : SS :=
 match settle s (lkF s.fr t) with
 | (x, s') => ⟨upF s'.fr t x, s'.hp⟩
inductive RT where
 | t (k : Nat)
 | c (k : Nat) (n : Option Nat)
 | w (i r c : Nat)
 | f (k : Nat)
def settleTs : List RT → SS → SS
 | [], s => s
 | .t k :: r, s => settleTs r (settleT s k)
 | .c _ _ :: r, s => settleTs r s
 | .w i r0 c :: r, s => settleTs r (swpS s i (cellV (s.hp[r0]?) c none))
 | .f k :: r, s => settleTs r (frzS s (lkF s.fr k))
def ptrV (hp : List SB) (x : SV) (n : Option Nat) : Option SV :=
 match x with
 | .ptr i off => cellV (hp[i]?) off n
 | _ => none
def resI (s : SS) : RT → Option SV
 | .t k => some (lkF s.fr k)
 | .c k n => ptrV s.hp (lkF s.fr k) n
 | _ => none
def consV (x : Option SV) (l : Option (List SV)) : Option (List SV) :=
 match x with
 | some x => match l with
  | some l => some (x :: l)
  | none => none
 | none => none
def resL (s : SS) : List RT → Option (List SV)
 | [] => some []
 | .w _ _ _ :: r => resL s r
 | .f _ :: r => resL s r
 | .t k :: r => consV (resI s (.t k)) (resL s r)
 | .c k n :: r => consV (resI s (.c k n)) (resL s r)
def oneV : List SV → SV
 | [x] => x
 | l => .tup l
def finI (r : SV) (hp : List SB) (idx : List Nat) (K : SV → List SB → Prop) : Prop := K (r.ren (posOf idx)) (selHp idx (posOf idx) hp)
def finR (n0 : Nat) (r : SV) (hp : List SB) (K : SV → List SB → Prop) : Prop := finI r hp (reach hp 400 (refsHp n0 hp ++ r.refs) (List.range n0)) K
def finO (n0 : Nat) (r : Option (List SV)) (hp : List SB) (K : SV → List SB → Prop) : Prop :=
 match r with
 | some l => finR n0 (oneV l) hp K
 | none => False
def finS (n0 : Nat) (rs : List RT) (s : SS) (K : SV → List SB → Prop) : Prop := finO n0 (resL s rs) s.hp K
def fin (n0 : Nat) (rs : List RT) (K : SV → List SB → Prop) : AE → SS → Prop
 | .normal, s => finS n0 rs (settleTs rs s) K
 | .ret, s => finS n0 rs (settleTs rs s) K
 | .exit _, _ => False
def frArgs : Nat → List SV → List (Nat × SV)
 | _, [] => []
 | n, x :: r => (n, x) :: frArgs (n + 1) r
/-! ### soundness -/
theorem reach_prefix (hp : List SB) : ∀ (n : Nat) (todo acc : List Nat), ∃ t, reach hp n todo acc = acc ++ t
 | 0, _, acc => ⟨[], by simp [reach]⟩
 | _ + 1, [], acc => ⟨[], by simp [reach]⟩
 | n + 1, i :: todo, acc => by
  simp only [reach]
  split
  ·exact reach_prefix hp n todo acc
  ·split
   ·exact reach_prefix hp n todo acc
   ·split
    ·rename_i b _ _
     obtain ⟨t, h⟩ := reach_prefix hp n (b.refs ++ todo) (acc ++ [i])
     exact ⟨i :: t, by rw [h]; simp⟩
    ·exact reach_prefix hp n todo acc
section sound
variable {P : Program} {S : Start} {Γ : List (Nat × Contract)} {L : List (Nat × LoopAnn)} {s : SS} {E : En} {a : Act}
theorem sel_sat (hs : Sat S s E a) {idx : List Nat} (hnd : idx.Nodup) (hlt : ∀ i ∈ idx, i < s.hp.length) (hpre : ∀ i, i < S.hp.length → idx[i]? = some i) :
  Sat S ⟨frRen (posOf idx) s.fr, selHp idx (posOf idx) s.hp⟩ { E with N := idx.length, ρ := fun j => E.ρ (idx.getD j 0) } a ∧ Ren E { E with N := idx.length, ρ := fun j => E.ρ (idx.getD j 0) } (posOf idx) := by
 obtain ⟨h1, hren⟩ := sel_sound hs.hs hnd hlt
 have hsel : ∀ (j : Nat) sj, (selHp idx (posOf idx) s.hp)[j]? = some sj → ∃ i s0, idx[j]? = some i ∧ s.hp[i]? = some s0 ∧ sj = s0.ren (posOf idx) := by
  intro j sj hj
  unfold selHp at hj
  rw [List.getElem?_map] at hj
  cases hi : idx[j]? with
  | none => rw [hi] at hj; cases hj
  | some i =>
   rw [hi] at hj
   cases hj
   have := hlt i (List.mem_of_getElem? hi)
   exact ⟨i, _, rfl, List.getElem?_eq_getElem this, by simp [List.getD_eq_getElem?_getD, List.getElem?_eq_getElem this]⟩
 have hrho : ∀ j i, idx[j]? = some i → E.ρ (idx.getD j 0) = E.ρ i := fun j i h => by rw [List.getD_eq_getElem?_getD, h]; rfl
 have hlv : ∀ b, Lv (selHp idx (posOf idx) s.hp) { E with N := idx.length, ρ := fun j => E.ρ (idx.getD j 0) } b → Lv s.hp E b := by
  rintro b ⟨j, sj, hj, hjl, hjb⟩
  obtain ⟨i, s0, h2, h3, rfl⟩ := hsel j sj hj
  rw [SB.live_ren] at hjl
  simp only at hjb
  rw [hrho j i h2] at hjb
  exact ⟨i, s0, h3, hjl, hjb⟩
 refine ⟨⟨h1, hs.fr.ren hren, hs.ev.trans ⟨rfl, rfl, rfl, Nat.le_refl _, fun _ _ _ => rfl, fun b hb => .inl (hlv b hb), fun _ h => h, fun _ h => .inl h, rfl⟩, ⟨?_, fun i sb hi hsb => ?_⟩, hs.defers, hs.size⟩, hren⟩
 ·show S.hp.length ≤ (selHp _ _ _).length
  unfold selHp
  rw [List.length_map]
  rcases Nat.lt_or_ge idx.length S.hp.length with h | h
  ·have := hpre idx.length h
   simp at this
  ·exact h
 ·obtain ⟨i', s0, h2, h3, rfl⟩ := hsel i sb hsb
  rw [hpre i hi] at h2
  cases h2
  show idok _ _ (E.ρ (idx.getD i 0))
  rw [hrho i i (hpre i hi)]
  exact idok_ren (hs.id.id i s0 hi h3)
theorem idx_ok (hs : Sat S s E a) (todo : List Nat) : (reach s.hp 400 todo (List.range S.hp.length)).Nodup ∧ (∀ i ∈ reach s.hp 400 todo (List.range S.hp.length), i < s.hp.length) ∧ (∀ i, i < S.hp.length → (reach s.hp 400 todo (List.range S.hp.length))[i]? = some i) := by
 obtain ⟨h1, h2⟩ := reach_ok s.hp 400 todo (List.range S.hp.length) List.nodup_range (fun i hi => by have := hs.id.le; simp at hi; omega)
 obtain ⟨t, ht⟩ := reach_prefix s.hp 400 todo (List.range S.hp.length)
 refine ⟨h1, h2, fun i hi => ?_⟩
 rw [ht, List.getElem?_append_left (by simpa using hi)]
 simp [hi]
theorem canon_sat (hs : Sat S s E a) (keep : List Nat) : ∃ E', E'.w = E.w ∧ Sat S (canon S.hp.length keep s) E' a := by
 have hs' : Sat S ⟨keepF keep s.fr, s.hp⟩ E a := hs.frame (hs.fr.keep keep)
 obtain ⟨h1, h2, h3⟩ := idx_ok hs' (refsHp S.hp.length s.hp ++ refsFr (keepF keep s.fr))
 refine ⟨_, ?_, (sel_sat hs' h1 h2 h3).1⟩
 rfl
def QQ (S : Start) (Q : AE → SS → Prop) : Exit → Act → World → Prop
 | .normal, a, w => ∃ s E, E.w = w ∧ Sat S s E a ∧ Q .normal s
 | .exit id, a, w => ∃ s E, E.w = w ∧ Sat S s E a ∧ Q (.exit id) s
 | .ret, a, w => ∃ s E, E.w = w ∧ Sat S s E a ∧ Q .ret s
 | _, _, _ => False
theorem exists_least {α : Type} (p : α → Prop) (μ : α → Nat) (h : ∃ x, p x) : ∃ x, p x ∧ ∀ y, p y → μ x ≤ μ y := by
 obtain ⟨x, hx⟩ := h
 have key : ∀ n x, μ x = n → p x → ∃ x, p x ∧ ∀ y, p y → μ x ≤ μ y := by
  intro n
  induction n using Nat.strongRecOn with
  | _ n ih =>
   intro x hn hx
   by_cases h : ∃ y, p y ∧ μ y < n
   ·obtain ⟨y, hy, hlt⟩ := h
    exact ih (μ y) hlt y rfl hy
   ·exact ⟨x, hx, fun y hy => by
     rcases Nat.lt_or_ge (μ y) n with h' | h'
     ·exact absurd ⟨y, hy, h'⟩ h
     ·omega⟩
 exact key _ x rfl hx
theorem lift_row {s : SS} {E : En} {a : Act} (hs : Sat S s E a) (eb : Nat) (t : Ty) : ∃ E', E'.w = E.w ∧ Sat S (pushS s (.row true eb t [])) E' a ∧ ∀ v, v = .slice none 0 0 → den E' (.own s.hp.length) v := by
 have h := hs.push (b' := .row true eb t []) (w' := E.w) (rv' := ⟨none, .slice none 0 0⟩) (Chg.refl _ _) (fun b hb => by cases hb) (.inl ⟨⟨none, rfl⟩, rfl, rfl⟩)
 refine ⟨{ E with N := E.N + 1, ρ := upR E.ρ E.N ⟨none, .slice none 0 0⟩, w := E.w }, rfl, h, fun v hv => ?_⟩
 subst hv
 simp only [den]
 refine ⟨by show s.hp.length < E.N + 1; have := hs.hs.n; omega, ?_, rfl⟩
 show _ = (upR E.ρ E.N _ s.hp.length).val
 rw [← hs.hs.n, upd_same]
theorem lift_sound {s : SS} {E : En} {a : Act} (hs : Sat S s E a) (d : Nat) (k : Option Nat) (eb : Nat) (t : Ty) : ∃ E', E'.w = E.w ∧ Sat S (liftS s d k eb t (lkF s.fr d)) E' a := by
 unfold liftS
 split
 ·split
  ·rename_i hx
   obtain ⟨E', e1, h1, h2⟩ := lift_row hs eb t
   refine ⟨E', e1, h1.frame (fun j => ?_)⟩
   rw [lkF_up]
   split
   ·rename_i hj
    subst hj
    have := hs.fr j
    rw [hx] at this
    simp only [den] at this
    exact h2 _ this
   ·exact h1.fr j
  ·exact ⟨E, rfl, hs⟩
 ·rename_i k
  split
  ·rename_i i off hx
   unfold liftC
   split
   ·rename_i hnil
    split
    ·rename_i cells hcs
     split
     ·rename_i cells' hsp
      have hi : s.hp[i]? = some (.struct cells) := by
       unfold cellsOf at hcs
       split at hcs
       ·rename_i c hc; cases hcs; exact hc
       ·cases hcs
      rw [hi] at hnil
      obtain ⟨E', e1, h1, h2⟩ := lift_row hs eb t
      have hlt : i < s.hp.length := (List.getElem?_eq_some_iff.1 hi).1
      have hi' : (pushS s (.row true eb t [])).hp[i]? = some (.struct cells) := by
       show (s.hp ++ [_])[i]? = _
       rw [List.getElem?_append_left hlt]; exact hi
      have hok := h1.hs.ok i _ hi'
      obtain ⟨b, cur, T, fr, k1, k2, k3, k4⟩ := hok
      refine ⟨E', e1, ?_⟩
      have := h1.setSame (sb' := .struct cells') hi' rfl (w' := E'.w) (Chg.refl _ _) ?_ rfl (fun rv0 h => h)
      ·exact this
      ·-- the cells are as they were
       have hd : ∃ r, dropC cells (off + k) = some r ∧ headC r = some .nils := by
        simp only [cellV, headO] at hnil
        split at hnil
        ·rename_i r hr; exact ⟨r, hr, hnil⟩
        ·cases hnil
       obtain ⟨r, hr, hh⟩ := hd
       obtain ⟨j1, j2⟩ := denC_drop _ _ _ _ k4 hr
       obtain ⟨v, c2, j3, j4⟩ := denC_head j1 hh
       simp only [den] at j4
       have hn : denC E' [.own s.hp.length] [v] := by
        rw [denC_cons rfl]; exact ⟨v, [], rfl, h2 v j4, by simp only [denC]⟩
       obtain ⟨j5, j6⟩ := denC_spl k4 hn hsp
       refine ⟨b, cur, T, fr, k1, k2, k3, ?_⟩
       have : cur.toList.take (off + k) ++ ([v] ++ cur.toList.drop (off + k + [v].length)) = cur.toList := by
        have e : cur.toList.drop (off + k) = v :: c2 := j3
        have e2 : cur.toList.drop (off + k + [v].length) = c2 := by
         rw [← List.drop_drop, e]; rfl
        rw [e2]
        have : [v] ++ c2 = cur.toList.drop (off + k) := by rw [e]; rfl
        rw [this, List.take_append_drop]
       rw [this] at j5
       exact j5
     ·exact ⟨E, rfl, hs⟩
    ·exact ⟨E, rfl, hs⟩
   ·exact ⟨E, rfl, hs⟩
  ·exact ⟨E, rfl, hs⟩
theorem rc_sound (hΓ : GOkS P Γ S) : ∀ (ac : AS) (c : Code) (Q : AE → SS → Prop) (s : SS) (E : En) (a : Act), okS P S.nt c ac = true → Sat S s E a → rc Γ L S.hp.length ac Q s → c.wp P (QQ S Q) a E.w
 | .no, c, Q, s, E, a, hok, hs, h => False.elim h
 | .skip, c, Q, s, E, a, hok, hs, h => by
  cases c <;> first | (simp [okS] at hok; done) | skip
  exact wp_skip ⟨s, E, rfl, hs, h⟩
 | .reg al keep, c, Q, s, E, a, hok, hs, h => by
  cases c <;> first | (simp [okS] at hok; done) | skip
  rename_i i ops d
  cases d
  ·simp only [okS] at hok
   refine wp_region ?_
   have := runL_sound hΓ (Q := QQ S Q) ops.toList al 0 rfl hok s E a _ hs h (fun s' E' a' hk hs' => ⟨_, E', rfl, hs'.frame (hs'.fr.keep keep), hk⟩)
   simpa using this
  ·simp [okS] at hok
 | .regD al items keep, c, Q, s, E, a, hok, hs, h => by
  cases c <;> first | (simp [okS] at hok; done) | skip
  rename_i i ops d
  cases d
  ·simp [okS] at hok
  ·simp only [okS] at hok
   exact drawn_sound hΓ hok (fun _ _ _ h => h) (fun s' E' a' hk hs' => ⟨_, E', rfl, hs'.frame (hs'.fr.keep keep), hk⟩) hs h
 | .regT al items keep, c, Q, s, E, a, hok, hs, h => by
  cases c <;> first | (simp [okS] at hok; done) | skip
  rename_i i ops d
  cases d
  ·simp [okS] at hok
  ·simp only [okS] at hok
   exact drawnT_sound hΓ hok (fun _ _ _ h => h) (fun s' E' a' hk hs' => ⟨_, E', rfl, hs'.frame (hs'.fr.keep keep), hk⟩) hs h
 | .seq x y, c, Q, s, E, a, hok, hs, h => by
  cases c <;> simp only [okS] at hok <;> first | cases hok | skip
  simp only [Bool.and_eq_true] at hok
  refine wp_seq (wp_mono (rc_sound hΓ x _ _ s E a hok.1 hs h) ?_)
  intro e a' w' hq
  cases e with
  | normal =>
   obtain ⟨s', E', rfl, hs', hk⟩ := hq
   exact rc_sound hΓ y _ Q s' E' a' hok.2 hs' hk
  | exit id => obtain ⟨s', E', rfl, hs', hk⟩ := hq; exact ⟨s', E', rfl, hs', hk⟩
  | ret => obtain ⟨s', E', rfl, hs', hk⟩ := hq; exact ⟨s', E', rfl, hs', hk⟩
  | goto l => exact hq.elim
  | panic ch => exact hq.elim
  | outgrown => exact hq.elim
 | .cond p x y, c, Q, s, E, a, hok, hs, h => by
  cases c <;> simp only [okS] at hok <;> first | cases hok | skip
  simp only [Bool.and_eq_true] at hok
  obtain ⟨⟨h1, h2⟩, h3⟩ := hok
  have g := get_sound h1 hs.fr
  simp only [rc] at h
  split at h
  ·rename_i b hb
   rw [hb] at g
   simp only [den] at g
   exact wp_cond_split g (fun hb => rc_sound hΓ x _ Q s E a h2 hs (sw_true h hb)) (fun hb => rc_sound hΓ y _ Q s E a h3 hs (sw_false h hb))
  ·cases h
 | .block i x, c, Q, s, E, a, hok, hs, h => by
  cases c <;> simp only [okS] at hok <;> first | cases hok | skip
  simp only [Bool.and_eq_true, beq_iff_eq] at hok
  obtain ⟨rfl, hok⟩ := hok
  refine wp_block (wp_mono (rc_sound hΓ x _ _ s E a hok hs h) ?_)
  intro e a' w' hq
  cases e with
  | normal => exact hq
  | exit id =>
   obtain ⟨s', E', rfl, hs', hk⟩ := hq
   simp only [blockQ] at hk
   simp only [Exit.inBlock]
   split at hk
   ·rename_i he
    rw [if_pos (by simpa using he)]
    exact ⟨s', E', rfl, hs', hk⟩
   ·rename_i he
    rw [if_neg (by simpa using he)]
    exact ⟨s', E', rfl, hs', hk⟩
  | ret => exact hq
  | goto l => exact hq
  | panic ch => exact hq
  | outgrown => exact hq
 | .loop i keep x, c, Q, s, E, a, hok, hs, h => by
  cases c <;> simp only [okS] at hok <;> first | cases hok | skip
  simp only [rc] at h
  split at h
  ·rename_i A hA
   obtain ⟨g0, h1, h2, h3⟩ := h
   let good : Act → World → A.G → Prop := fun a w g => A.R g0 g ∧ ∃ E, E.w = w ∧ Sat S (A.I g) E a
   have least : ∀ a w, (∃ g, good a w g) → ∃ g, good a w g ∧ ∀ g', good a w g' → A.μ g ≤ A.μ g' := fun a w h => exists_least _ _ h
   have cl := Classical.propDecidable
   let m : Act → World → Nat := fun a w => if h : ∃ g, good a w g then A.μ (Classical.choose (least a w h)) else 0
   refine wp_loop (fun a w => ∃ g, good a w g) m ?_ ?_
   ·obtain ⟨E', e1, e2⟩ := canon_sat hs keep
    rw [h1] at e2
    exact ⟨g0, h2, E', e1, e2⟩
   ·intro a w hI
    have hm : m a w = A.μ (Classical.choose (least a w hI)) := by simp only [m]; rw [dif_pos hI]
    obtain ⟨⟨hR, E', rfl, hsat⟩, hmin⟩ := Classical.choose_spec (least a w hI)
    generalize Classical.choose (least a E'.w hI) = g at hm hR hsat hmin
    refine wp_mono (rc_sound hΓ x _ _ _ E' a hok hsat (h3 g hR)) ?_
    intro e a' w' hq
    cases e with
    | normal =>
     obtain ⟨s', E2, rfl, hs', g', k1, k2, k3⟩ := hq
     obtain ⟨E3, e1, e2⟩ := canon_sat hs' keep
     rw [k1] at e2
     have hg' : good a' E2.w g' := ⟨k2, E3, e1, e2⟩
     refine ⟨⟨g', hg'⟩, ?_⟩
     have hex : ∃ g, good a' E2.w g := ⟨g', hg'⟩
     have hm' : m a' E2.w = A.μ (Classical.choose (least a' E2.w hex)) := by simp only [m]; rw [dif_pos hex]
     have := (Classical.choose_spec (least a' E2.w hex)).2 g' hg'
     rw [hm, hm']
     exact Nat.lt_of_le_of_lt this k3
    | exit id => obtain ⟨s', E2, rfl, hs', hk⟩ := hq; exact ⟨s', E2, rfl, hs', hk⟩
    | ret => obtain ⟨s', E2, rfl, hs', hk⟩ := hq; exact ⟨s', E2, rfl, hs', hk⟩
    | goto l => exact hq.elim
    | panic ch => exact hq.elim
    | outgrown => exact hq.elim
  ·cases h
 | .exit i, c, Q, s, E, a, hok, hs, h => by
  cases c <;> simp only [okS] at hok <;> first | cases hok | skip
  have := beq_iff_eq.1 hok
  subst this
  exact wp_exit ⟨s, E, rfl, hs, h⟩
 | .ret, c, Q, s, E, a, hok, hs, h => by
  cases c <;> first | (simp [okS] at hok; done) | skip
  exact wp_ret ⟨s, E, rfl, hs, h⟩
 | .lift d k eb t x, c, Q, s, E, a, hok, hs, h => by
  rw [okS] at hok
  rw [rc] at h
  obtain ⟨E', e1, h1⟩ := lift_sound hs d k eb t
  rw [← e1]
  exact rc_sound hΓ x c Q _ E' a hok h1 h
 | .frz d x, c, Q, s, E, a, hok, hs, h => by
  rw [okS] at hok
  rw [rc] at h
  obtain ⟨E', e1, h1⟩ := frzS_sat hs (lkF s.fr d)
  rw [← e1]
  exact rc_sound hΓ x c Q _ E' a hok h1 h
 | .swp i r c' x, c, Q, s, E, a, hok, hs, h => by
  rw [okS] at hok
  rw [rc] at h
  obtain ⟨E', e1, h1⟩ := swpS_sat hs i (cellV (s.hp[r]?) c' none)
  rw [← e1]
  exact rc_sound hΓ x c Q _ E' a hok h1 h
end sound
end Go.V
namespace Go.V
set_option linter.unusedSimpArgs false
set_option linter.unnecessarySimpa false
set_option linter.unusedVariables false
def okRes (P : Program) : List ResultVar → List RT → Bool
 | [], [] => true
 | .tmp t :: r, .t n :: r' => t == n && okRes P r r'
 | .cell t T :: r, .c k n :: r' => t == k && (match n with
  | none => agOf P T == some false
  | some m => agOf P T == some true && szOf P T == some m) && okRes P r r'
 | vs, .w _ _ _ :: r' => okRes P vs r'
 | vs, .f _ :: r' => okRes P vs r'
 | _, _ => false
def resM (tmps : Array Value) : ResultVar → Sem Value
 | .tmp t => pure (tmps.getD t undef)
 | .cell a t => do loadVar t (← asAddr (tmps.getD a undef))
theorem cell_res {P : Program} {S : Start} {s : SS} {E : En} {a : Act} (hs : Sat S s E a) {k T : Nat} {n : Option Nat} (hok : (match n with
  | none => agOf P T == some false
  | some m => agOf P T == some true && szOf P T == some m) = true) {x : SV} (hx : ptrV s.hp (lkF s.fr k) n = some x) : ∃ v, (resM a.tmps (.cell k T)).run P E.w = .ok v E.w ∧ den E x v := by
 have g := hs.fr k
 unfold ptrV at hx
 split at hx
 ·rename_i i off hk
  rw [hk] at g
  unfold cellV at hx
  split at hx
  ·rename_i cells hi
   have hseen : ∀ l, dropC cells off = some l → seen s.hp (.ptr i off) = some (True, l) := fun l hl => by simp only [seen, hi, hl, Option.map_some]
   cases n with
   | none =>
    simp only [headO] at hx
    split at hx
    ·rename_i l hl
     obtain ⟨b, o, cur, T', fr, cs, r, hv, hb, hd, hc⟩ := seen_sound hs.hs g (hseen l hl) trivial
     obtain ⟨v, c2, rfl, h4⟩ := denC_head hc hx
     have hcell : E.w.cell? ⟨b, o, none⟩ = some v := by
      have := congrArg (fun l => l[0]?) hd
      simp [World.cell?, hb]
      simpa using this
     simp only [beq_iff_eq] at hok
     exact ⟨v, by simp [resM, -Array.getD_eq_getD_getElem?, hv, asAddr, loadVar, isAgg_run hok, hcell], h4⟩
    ·cases hx
   | some m =>
    simp only [takeO] at hx
    split at hx
    ·rename_i l hl
     simp only [aggO] at hx
     split at hx
     ·rename_i l' hl'
      cases hx
      obtain ⟨b, o, cur, T', fr, cs, r, hv, hb, hd, hc⟩ := seen_sound hs.hs g (hseen l hl) trivial
      obtain ⟨h4, h5⟩ := denC_take _ _ _ _ hc hl'
      have hlen : (cs.take m).length = m := by simp; omega
      have hd' : cur.toList.drop o = cs.take m ++ (cs.drop m ++ r) := by rw [← List.append_assoc, List.take_append_drop]; exact hd
      have hrun := loadCells_run (P := P) hb hd'
      rw [hlen] at hrun
      simp only [Bool.and_eq_true, beq_iff_eq] at hok
      refine ⟨.agg (cs.take m).toArray, ?_, ?_⟩
      ·simp [resM, -Array.getD_eq_getD_getElem?, hv, asAddr, loadVar, isAgg_run hok.1, szOf_run hok.2, hrun]
      ·simp only [den]; exact ⟨_, rfl, h4⟩
     ·cases hx
    ·cases hx
  ·cases hx
 ·cases hx
theorem mapM_res {P : Program} {S : Start} {s : SS} {E : En} {a : Act} (hs : Sat S s E a) : ∀ (vs : List ResultVar) (rs : List RT) (l : List SV), okRes P vs rs = true → resL s rs = some l →
  ∃ us, (vs.mapM (resM a.tmps)).run P E.w = .ok us E.w ∧ denL E l us
 | [], [], l, _, hl => by simp only [resL] at hl; cases hl; exact ⟨[], by simp, by simp [denL]⟩
 | vs, .w _ _ _ :: rs, l, h, hl => by
  have h' : okRes P vs rs = true := by cases vs <;> simpa [okRes] using h
  exact mapM_res hs vs rs l h' (by simpa only [resL] using hl)
 | vs, .f _ :: rs, l, h, hl => by
  have h' : okRes P vs rs = true := by cases vs <;> simpa [okRes] using h
  exact mapM_res hs vs rs l h' (by simpa only [resL] using hl)
 | [], .t _ :: _, l, h, _ => by simp [okRes] at h
 | [], .c _ _ :: _, l, h, _ => by simp [okRes] at h
 | _ :: _, [], l, h, _ => by simp [okRes] at h
 | .cell _ _ :: _, .t _ :: _, l, h, _ => by simp [okRes] at h
 | .tmp _ :: _, .c _ _ :: _, l, h, _ => by simp [okRes] at h
 | .tmp t :: vs, .t k :: rs, l, h, hl => by
  simp only [resL, consV] at hl
  split at hl
  ·rename_i y hy
   split at hl
   ·rename_i l' hl'
    cases hl
    simp only [okRes, Bool.and_eq_true, beq_iff_eq] at h
    obtain ⟨rfl, h⟩ := h
    simp only [resI] at hy
    cases hy
    obtain ⟨us, h4, h5⟩ := mapM_res hs vs rs l' h hl'
    have h1 : (resM a.tmps (.tmp t)).run P E.w = .ok (a.tmps.getD t undef) E.w := by simp only [resM, Sem.run_pure]
    refine ⟨a.tmps.getD t undef :: us, by simp only [List.mapM_cons, Sem.run_bind, Sem.run_pure, Result.andThen_ok, h1, h4], ?_⟩
    simp only [denL]
    exact ⟨_, us, rfl, hs.fr t, h5⟩
   ·cases hl
  ·cases hl
 | .cell t T :: vs, .c k n :: rs, l, h, hl => by
  simp only [resL, consV] at hl
  split at hl
  ·rename_i y hy
   split at hl
   ·rename_i l' hl'
    cases hl
    simp only [okRes, Bool.and_eq_true, beq_iff_eq] at h
    obtain ⟨⟨rfl, h1⟩, h⟩ := h
    obtain ⟨u, h2, h3⟩ := cell_res (P := P) hs (T := T) h1 hy
    obtain ⟨us, h4, h5⟩ := mapM_res hs vs rs l' h hl'
    refine ⟨u :: us, by simp only [List.mapM_cons, Sem.run_bind, Sem.run_pure, Result.andThen_ok, h2, h4], ?_⟩
    simp only [denL]
    exact ⟨u, us, rfl, h3, h5⟩
   ·cases hl
  ·cases hl
theorem results_run {P : Program} {S : Start} {s : SS} {E : En} {a : Act} (hs : Sat S s E a) {fn : Func} {rs : List RT} (h : okRes P fn.results.toList rs = true) {l : List SV} (hl : resL s rs = some l) : ∃ v, (results fn a.tmps).run P E.w = .ok v E.w ∧ den E (oneV l) v := by
 obtain ⟨us, h1, h2⟩ := mapM_res hs _ _ _ h hl
 have h3 : (results fn a.tmps).run P E.w = .ok (if h : us.toArray.size = 1 then us.toArray[0] else .tuple us.toArray) E.w := by
  unfold results
  rw [Array.mapM_eq_mapM_toList]
  simp only [Sem.run_bind, Sem.run_map, Sem.run_pure, Result.andThen_ok]
  have e : (fun x : ResultVar => (match x with
   | .tmp t => pure (a.tmps.getD t undef)
   | .cell b t => do loadVar t (← asAddr (a.tmps.getD b undef)) : Sem Value)) = resM a.tmps := by funext x; cases x <;> rfl
  erw [e, h1]
  rfl
 refine ⟨_, h3, ?_⟩
 match l, us, h2 with
 | [], [], _ => simp only [oneV, den]; exact ⟨_, rfl, by simp [denL]⟩
 | [], _ :: _, h2 => simp [denL] at h2
 | [x], us, h2 =>
  simp only [denL] at h2
  obtain ⟨v, r', rfl, h2, rfl⟩ := h2
  exact h2
 | x :: y :: r, us, h2 =>
  have h2' := h2
  simp only [denL] at h2'
  obtain ⟨v, r', rfl, _, v2, r2, rfl, _, _⟩ := h2'
  simp only [oneV, den]
  exact ⟨(v :: v2 :: r2).toArray, by simp, by simpa using h2⟩
section
variable {P : Program} {S : Start} {Γ : List (Nat × Contract)} {s : SS} {E : En} {a : Act}
theorem settleT_sat (hs : Sat S s E a) (t : Nat) : ∃ E', E'.w = E.w ∧ Sat S (settleT s t) E' a := by
 have hx := hs.fr t
 obtain ⟨E', e1, e2, e3, _⟩ := settle_sound hs hx
 refine ⟨E', e1, ?_⟩
 unfold settleT
 generalize settle s (lkF s.fr t) = R at e2 e3
 obtain ⟨x, s'⟩ := R
 refine e2.frame fun k => ?_
 rw [lkF_up]
 split
 ·rename_i hk; subst hk; exact e3
 ·exact e2.fr k
theorem settleTs_sat : ∀ (ts : List RT) (s : SS) (E : En), Sat S s E a → ∃ E', E'.w = E.w ∧ Sat S (settleTs ts s) E' a
 | [], s, E, hs => ⟨E, rfl, hs⟩
 | .c _ _ :: r, s, E, hs => settleTs_sat r s E hs
 | .w i r0 c :: r, s, E, hs => by
  obtain ⟨E', e1, e2⟩ := swpS_sat hs i (cellV (s.hp[r0]?) c none)
  obtain ⟨E2, e3, e4⟩ := settleTs_sat r _ E' e2
  exact ⟨E2, e3.trans e1, e4⟩
 | .f k :: r, s, E, hs => by
  obtain ⟨E', e1, e2⟩ := frzS_sat hs (lkF s.fr k)
  obtain ⟨E2, e3, e4⟩ := settleTs_sat r _ E' e2
  exact ⟨E2, e3.trans e1, e4⟩
 | .t t :: r, s, E, hs => by
  obtain ⟨E', e1, e2⟩ := settleT_sat hs t
  obtain ⟨E2, e3, e4⟩ := settleTs_sat r _ E' e2
  exact ⟨E2, e3.trans e1, e4⟩
theorem frArgs_den {args : List SV} {vs : List Value} (h : denL E args vs) : ∀ (n : Nat) (tmps : Array Value), (∀ j v, vs[j]? = some v → tmps.getD (n + j) undef = v) → ∀ k, den E (lkF (frArgs n args) k) (tmps.getD k undef) := by
 induction args generalizing vs with
 | nil => intro n tmps _ k; simp only [frArgs, lkF, den]
 | cons x r ih =>
  intro n tmps ht k
  simp only [denL] at h
  obtain ⟨v, r', rfl, h1, h2⟩ := h
  simp only [frArgs, lkF]
  cases hk : n == k with
  | true =>
   have : n = k := by simpa using hk
   subst this
   simp only [cond_true]
   have := ht 0 v (by simp)
   rw [Nat.add_zero] at this
   rw [this]; exact h1
  | false =>
   simp only [cond_false]
   refine ih h2 (n + 1) tmps (fun j u hj => ?_) k
   have := ht (j + 1) u (by simpa using hj)
   rw [← this]; congr 1; omega
theorem denL_length {E : En} : ∀ (l : List SV) (vs : List Value), denL E l vs → vs.length = l.length
 | [], vs, h => by simp only [denL] at h; subst h; rfl
 | x :: r, vs, h => by
  simp only [denL] at h
  obtain ⟨v, r', rfl, _, h2⟩ := h
  simp [denL_length r r' h2]
theorem sound_of_rc {f : FuncId} {fn : Func} {c : Code} {ac : AS} {rs : List RT} {C : Contract} (hf : P.funcs[f]? = some fn) (hb : fn.body = some c) (hok : okS P fn.ntmps c ac = true) (hres : okRes P fn.results.toList rs = true) (hΓ : GOk P Γ)
  (h : ∀ args hp K, C args hp K → args.length ≤ fn.ntmps ∧ ∃ L, rc Γ L hp.length ac (fin hp.length rs K) ⟨frArgs 0 args, hp⟩) : Sound P f C := by
 intro args hp K hC E vs hhs hgl hd
 obtain ⟨hlen, L, hrc⟩ := h args hp K hC
 have hl := denL_length _ _ hd
 refine calls_of_wp hf hb ?_
 let S : Start := ⟨hp, E, fn.ntmps⟩
 have hsat : Sat S ⟨frArgs 0 args, hp⟩ E { tmps := vs.toArray ++ Array.replicate (fn.ntmps - vs.toArray.size) undef, defers := [] } := by
  refine ⟨hhs, frArgs_den hd 0 _ (fun j v hj => ?_), Ev.refl _ _, Id.refl _ _, rfl, ?_⟩
  ·have hj' := (List.getElem?_eq_some_iff.1 hj).1
   rw [Nat.zero_add, Array.getD_eq_getD_getElem?, Array.getElem?_append_left (by simpa using hj')]
   simp [hj]
  ·simp only [Array.size_append, List.size_toArray, Array.size_replicate]
   show vs.length + (fn.ntmps - vs.length) = fn.ntmps
   omega
 refine wp_mono (rc_sound (S := S) ⟨hΓ, hhs, hgl⟩ ac c _ _ E _ hok hsat hrc) ?_
 have done : ∀ (s : SS) (E' : En) (a' : Act), Sat S s E' a' → finS hp.length rs (settleTs rs s) K → a'.defers = [] ∧ ∃ v, (results fn a'.tmps).run P E'.w = .ok v E'.w ∧
   ∃ r hp' E'' v', Ending.returned v = .returned v' ∧ E''.w = E'.w ∧ K r hp' ∧ HS hp' E'' ∧ den E'' r v' ∧ Ev hp E hp' E'' ∧ Id hp.length E.ρ hp' E''.ρ := by
  intro s E' a' hs hk
  obtain ⟨E2, e1, e2⟩ := settleTs_sat rs s E' hs
  unfold finS finO at hk
  split at hk
  ·rename_i l hl
   obtain ⟨v, hrun, hr⟩ := results_run e2 hres hl
   rw [e1] at hrun
   refine ⟨hs.defers, v, hrun, ?_⟩
   unfold finR finI at hk
   obtain ⟨h1, h2, h3⟩ := idx_ok e2 (refsHp hp.length (settleTs rs s).hp ++ (oneV l).refs)
   obtain ⟨h4, h5⟩ := sel_sat e2 h1 h2 h3
   refine ⟨_, _, _, _, rfl, ?_, hk, h4.hs, den_ren h5 _ _ hr, h4.ev, h4.id⟩
   exact e1
  ·cases hk
 intro e a' w' hq
 cases e with
 | normal => obtain ⟨s, E', rfl, hs, hk⟩ := hq; exact done s E' a' hs hk
 | ret => obtain ⟨s, E', rfl, hs, hk⟩ := hq; exact done s E' a' hs hk
 | exit id => obtain ⟨s, E', rfl, hs, hk⟩ := hq; exact hk.elim
 | goto l => exact hq.elim
 | panic ch => exact hq.elim
 | outgrown => exact hq.elim
def okF (P : Program) (f : FuncId) (ac : AS) (rs : List RT) (n : Nat) : Bool :=
 match P.funcs[f]? with
 | some fn => match fn.body with
  | some c => okS P fn.ntmps c ac && okRes P fn.results.toList rs && decide (n ≤ fn.ntmps) && decide (fn.name ≠ "runtime.NumGoroutine")
  | none => false
 | none => false
theorem callable_of_okF {f : FuncId} {ac : AS} {rs : List RT} {n : Nat} (h : okF P f ac rs n = true) : Callable P f := by
 unfold okF at h
 split at h
 ·rename_i fn hf
  split at h
  ·rename_i c hb
   simp only [Bool.and_eq_true, decide_eq_true_eq] at h
   exact ⟨fn, hf, by simp [hb], h.2⟩
  ·cases h
 ·cases h
theorem sound_of_okF {f : FuncId} {ac : AS} {rs : List RT} {n : Nat} {C : Contract} (hok : okF P f ac rs n = true) (hΓ : GOk P Γ)
  (h : ∀ args hp K, C args hp K → args.length ≤ n ∧ ∃ L, rc Γ L hp.length ac (fin hp.length rs K) ⟨frArgs 0 args, hp⟩) : Sound P f C := by
 unfold okF at hok
 split at hok
 ·rename_i fn hf
  split at hok
  ·rename_i c hb
   simp only [Bool.and_eq_true, decide_eq_true_eq] at hok
   exact sound_of_rc hf hb hok.1.1.1 hok.1.1.2 hΓ (fun args hp K hC => ⟨Nat.le_trans (h args hp K hC).1 hok.1.2, (h args hp K hC).2⟩)
  ·cases hok
 ·cases hok
end
end Go.V
