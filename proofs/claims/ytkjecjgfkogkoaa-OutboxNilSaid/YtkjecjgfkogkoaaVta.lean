/- Regions whose order is open. -/
import Derived.Test.YtkjecjgfkogkoaaVt
namespace Go.V
set_option linter.unusedSimpArgs false
set_option linter.unnecessarySimpa false
set_option linter.unusedVariables false

/-- The operations in one order: a quiet one; one that does something, with those quiet ones that may not be done by then. -/
inductive DI where
  | q (i : Nat)
  | e (i : Nat) (pend : List Nat)

def DI.ix : DI → Nat
  | .q i => i
  | .e i _ => i

def atA (al : List AOper) (i : Nat) : AOper := al.getD i ⟨none, .mv (.c .junk), none⟩

def eqK (s : SS) (d : Option Nat) (v : SV) : Prop :=
  match d with
  | some d => lkF s.fr d = v
  | none => False

/-- Done now, the operation comes to what its slot holds. -/
def chk1 (o : AOper) (s : SS) : Prop :=
  match o.guard with
  | none => evC o.op s (eqK s o.dst)
  | some (slot, want) => match lkF s.fr slot with
    | .bool b => sw (b == want) (evC o.op s (eqK s o.dst)) (eqK s o.dst (.tup []))
    | .tup [] => eqK s o.dst (.tup [])
    | _ => False

def chkL (al : List AOper) : List Nat → SS → Prop
  | [], _ => True
  | i :: r, s => chk1 (atA al i) s ∧ chkL al r s

def runE (Γ : List (Nat × Contract)) (o : AOper) (s : SS) (K1 K2 : SS → Prop) : Prop :=
  match o.guard with
  | none => step Γ o s K1
  | some (slot, want) => match lkF s.fr slot with
    | .bool b => sw (b == want) (step Γ o (s.put (some slot) (.bool want)) K1) (K2 ((s.put (some slot) (.bool (!want))).put o.dst (.tup [])))
    | .tup [] => K2 (s.put o.dst (.tup []))
    | _ => False

def andK (A K : SS → Prop) (s : SS) : Prop := A s ∧ K s

def runD (Γ : List (Nat × Contract)) (al : List AOper) : List DI → SS → (SS → Prop) → Prop
  | [], s, K => K s
  | .q i :: r, s, K => runE Γ (atA al i) s (fun s' => runD Γ al r s' K) (fun s' => runD Γ al r s' K)
  | .e i pend :: r, s, K => runE Γ (atA al i) s (andK (chkL al pend) (fun s' => runD Γ al r s' K)) (fun s' => runD Γ al r s' K)

/-! ### the check -/
def bindsAny (e : Edge) : Bool := Region.binds .any e

def deps (ops : Array Oper) (i : Nat) : List Nat :=
  match ops[i]? with
  | some o => (o.after.toList.filter bindsAny).map Edge.on
  | none => []

def clos (ops : Array Oper) : Nat → List Nat → List Nat → List Nat
  | 0, _, acc => acc
  | _ + 1, [], acc => acc
  | n + 1, i :: todo, acc => if acc.contains i then clos ops n todo acc else clos ops n (deps ops i ++ todo) (i :: acc)

def dstOf (ops : Array Oper) (i : Nat) : Option Nat := (ops[i]?).bind (·.dst)

/-- Does i look at what j writes? -/
def rdsB (ops : Array Oper) (i j : Nat) : Bool :=
  match ops[i]? with
  | some o => match dstOf ops j with
    | some t => (o.looksAt ops).contains t
    | none => false
  | none => false

/-- i looks at what j writes, and j is to wait for i. -/
def Anti (ops : Array Oper) (i j : Nat) : Prop := rdsB ops i j = true ∧ j ∉ deps ops i

/-- What an operation reads in the region it waits for; or the other one waits for it. -/
def okReads (ops : Array Oper) (n i : Nat) : Bool :=
  (List.range n).all fun j => !rdsB ops i j || (deps ops i).contains j || (i != j && (deps ops j).contains i)

theorem rdsB_spec {ops : Array Oper} {i j t : Nat} {o : Oper} (hi : ops[i]? = some o) (ht : t ∈ o.looksAt ops) (hj : dstOf ops j = some t) : rdsB ops i j = true := by
  unfold rdsB
  rw [hi]
  simp only [hj]
  rw [List.contains_eq_mem]
  simpa using ht

def okDst (ops : Array Oper) (n : Nat) : Bool :=
  (List.range n).all fun i => (List.range n).all fun j => i == j || (match dstOf ops i with
    | some d => dstOf ops j != some d
    | none => true)

def okPend (ops : Array Oper) : List Nat → Bool
  | [] => true
  | i :: r => !rdsB ops i i && r.all (fun j => !rdsB ops i j && i != j) && okPend ops r

def isQ (al : List AOper) (i : Nat) : Bool := (atA al i).op.quiet && (atA al i).dst.isSome

def okItems (ops : Array Oper) (al : List AOper) (n : Nat) : List Nat → List Nat → List DI → Bool
  | V, ef, [] => V.length == n && (List.range n).all V.contains
  | V, ef, .q i :: r => isQ al i && decide (i < n) && !V.contains i && (deps ops i).all V.contains && ((List.range n).all fun k => !rdsB ops k i || (deps ops k).contains i || ef.contains k) && okItems ops al n (i :: V) ef r
  | V, ef, .e i pend :: r => decide (i < n) && !V.contains i && (deps ops i).all V.contains &&
    ((List.range n).all fun j => V.contains j || j == i || (deps ops j).any fun k => !V.contains k) &&
    okPend ops pend && pend.all (fun j => V.contains j && isQ al j) &&
    (V.all fun j => ef.contains j || pend.contains j || (clos ops 4000 (deps ops i) []).contains j) &&
    okItems ops al n (i :: V) (i :: V.filter (fun j => !pend.contains j)) r

def okDr (P : Program) (nt : Nat) (ops : Array Oper) (al : List AOper) (items : List DI) : Bool :=
  P.follows .mixedOrders && okL P nt ops ops.toList al && Region.noSelect ops && okDst ops ops.size && (List.range ops.size).all (okReads ops ops.size) && okItems ops al ops.size [] [] items

theorem clos_spec (ops : Array Oper) (A : Nat → Prop) (hA : ∀ i, A i → ∀ j ∈ deps ops i, A j) : ∀ (n : Nat) (todo acc : List Nat), (∀ i ∈ todo, A i) → (∀ i ∈ acc, A i) → ∀ i ∈ clos ops n todo acc, A i
  | 0, _, acc, _, h2 => h2
  | _ + 1, [], acc, _, h2 => h2
  | n + 1, i :: todo, acc, h1, h2 => by
    simp only [clos]
    split
    · exact clos_spec ops A hA n todo acc (fun j hj => h1 j (List.mem_cons_of_mem _ hj)) h2
    · refine clos_spec ops A hA n _ _ (fun j hj => ?_) (fun j hj => ?_)
      · rcases List.mem_append.1 hj with hj | hj
        · exact hA i (h1 i (by simp)) j hj
        · exact h1 j (List.mem_cons_of_mem _ hj)
      · rcases List.mem_cons.1 hj with rfl | hj
        · exact h1 j (by simp)
        · exact h2 j hj

section drawn
variable {P : Program} {S : Start} {Γ : List (Nat × Contract)} {ops : Array Oper} {al : List AOper} {Q : Exit → Act → World → Prop}

/-- Operation o, done in b, comes to what its slot holds there. -/
def Yl (P : Program) (ops : Array Oper) (o : Oper) (b : Act) (w : World) : Prop :=
  ∃ v, (∀ d, o.dst = some d → b.tmps[d]? = some v) ∧
    ((Region.wanted o (yielded ops b.tmps) = true ∧ (execOp b.eval o).run P w = .ok (.value v) w) ∨ (Region.wanted o (yielded ops b.tmps) = false ∧ v = undef))

/-- Slots that the operation looks at hold the same. -/
theorem same_exec {o : Oper} {a b : Act} (hs : ∀ cs bb, o.op ≠ .select cs bb) (h : ∀ t ∈ o.looksAt ops, a.tmps[t]? = b.tmps[t]?) : execOp a.eval o = execOp b.eval o ∧ Region.wanted o (yielded ops a.tmps) = Region.wanted o (yielded ops b.tmps) := by
  refine ⟨execOp_congr o hs fun x hx => ?_, ?_⟩
  · cases x with
    | tmp t =>
      have := h t (List.mem_append_left _ (List.mem_filterMap.2 ⟨.tmp t, by simpa using hx, rfl⟩))
      simp only [Act.eval, Array.getD_eq_getD_getElem?, this]
    | _ => rfl
  · unfold Region.wanted
    cases hg : o.guard with
    | none => rfl
    | some gw =>
      obtain ⟨g, want⟩ := gw
      have hy : yielded ops a.tmps g = yielded ops b.tmps g := by
        unfold yielded
        cases ht : (ops[g]?).bind (·.dst) with
        | none => rfl
        | some t =>
          have := h t (by simp [Oper.looksAt, hg, ht])
          simp [this]
      simp only [hy]

theorem Yl.congr {o : Oper} {a b : Act} {w : World} (hs : ∀ cs bb, o.op ≠ .select cs bb) (h : ∀ t ∈ o.looksAt ops, a.tmps[t]? = b.tmps[t]?) (hd : ∀ d, o.dst = some d → a.tmps[d]? = b.tmps[d]?) (hy : Yl P ops o a w) : Yl P ops o b w := by
  obtain ⟨v, h1, h2⟩ := hy
  obtain ⟨e1, e2⟩ := same_exec hs h
  rw [e1, e2] at h2
  exact ⟨v, fun d hd' => by rw [← hd d hd']; exact h1 d hd', h2⟩

theorem put_same {a b : Act} (hsz : a.tmps.size = b.tmps.size) {d : Option Tmp} {u v : Value} (h : b.put d u = b.put d v) : a.put d u = a.put d v := by
  cases d with
  | none => rfl
  | some d =>
    simp only [Act.put, Act.mk.injEq, and_true] at h ⊢
    by_cases hd : d < b.tmps.size
    · have := congrArg (fun l => l[d]?) h
      simp only [Array.getElem?_setIfInBounds_self_of_lt hd, Option.some.injEq] at this
      rw [this]
    · have hd' : b.tmps.size ≤ d := Nat.le_of_not_lt hd
      rw [Array.setIfInBounds_eq_of_size_le (hsz ▸ hd'), Array.setIfInBounds_eq_of_size_le (hsz ▸ hd')]

/-- The operation's run in a like act. -/
theorem wp_like {o : Oper} {a b : Act} {w : World} {next : Act → World → Prop} (he : execOp a.eval o = execOp b.eval o) (hsz : a.tmps.size = b.tmps.size) (hQ : ∀ c x w, ¬ Q (.panic c) x w)
    (h : o.wp P b w (fun x w' => ∃ v, x = b.put o.dst v ∧ next (a.put o.dst v) w') Q) : o.wp P a w next Q := by
  unfold Oper.wp at *
  rw [he]
  have hdef : ∀ (d : Deferred) (u v : Value), ({ b with defers := d :: b.defers } : Act).put o.dst u ≠ b.put o.dst v := by
    intro d u v e
    have := congrArg Act.defers e
    cases hdst : o.dst <;> simp [Act.put, hdst] at this
  have val : ∀ (u : Value) (w' : World), (∃ v, b.put o.dst u = b.put o.dst v ∧ next (a.put o.dst v) w') → next (a.put o.dst u) w' := by
    rintro u w' ⟨v, e, hn⟩
    rw [put_same hsz e]; exact hn
  generalize (execOp b.eval o).run P w = r at *
  cases r with
  | ok n w' =>
    cases n <;> simp only [Oper.upon] at h ⊢
    case value u => exact val _ _ h
    case skip => exact val _ _ h
    case defer d =>
      obtain ⟨v, e, _⟩ := h
      exact absurd e (hdef d _ v)
    case enter f args =>
      refine Calls.mono h fun e w'' he => ?_
      cases e with
      | returned u => exact val _ _ he
      | panicked c => exact absurd he (hQ _ _ _)
      | outgrown => exact he
    case row row args => exact Rows.mono h fun u w'' he => val _ _ he
  | halt x w' =>
    cases x <;> simp only [Oper.upon] at h ⊢
    all_goals first | exact h | exact absurd h (hQ _ _ _)

theorem getD_set_tt {l : Array Bool} {i k : Nat} (h : l.getD k true = true) : (l.setIfInBounds i true).getD k true = true := by
  by_cases hk : k = i
  · subst hk
    rcases Nat.lt_or_ge k l.size with h' | h'
    · rw [Array.getD_eq_getD_getElem?, Array.getElem?_setIfInBounds_self_of_lt h']; rfl
    · rw [Array.getD_eq_getD_getElem?, Array.getElem?_eq_none (by rw [Array.size_setIfInBounds]; exact h')]; rfl
  · rw [getD_set_ne true (Ne.symm hk)]; exact h

/-- What is done ahead: b is a, with the operations of V done that are not done yet. -/
structure Virt (P : Program) (ops : Array Oper) (V : List Nat) (listed : Array Bool) (a b : Act) (w : World) : Prop where
  defers : a.defers = []
  size : a.tmps.size = b.tmps.size
  same : ∀ k, (∀ i ∈ V, listed.getD i true = false → dstOf ops i ≠ some k) → a.tmps[k]? = b.tmps[k]?
  ahead : ∀ i ∈ V, listed.getD i true = false → ∀ o, ops[i]? = some o → o.dst.isSome = true ∧ Yl P ops o b w
  sub : ∀ i, i < ops.size → listed.getD i true = true → i ∈ V
  lsz : listed.size = ops.size
  down : ∀ i, i < ops.size → listed.getD i true = true → ∀ j ∈ deps ops i, listed.getD j false = true
  anti : ∀ i j, j ∈ V → listed.getD j true = false → Anti ops i j → listed.getD i true = true

theorem dst_lt {j t : Nat} (hj : dstOf ops j = some t) : j < ops.size := by
  unfold dstOf at hj
  cases ho : ops[j]? with
  | none => rw [ho] at hj; cases hj
  | some o' => exact (Array.getElem?_eq_some_iff.1 ho).1

theorem reads_spec {i : Nat} {o : Oper} (h : okReads ops ops.size i = true) (hi : ops[i]? = some o) : ∀ t ∈ o.looksAt ops, ∀ j, dstOf ops j = some t → j ∈ deps ops i ∨ (i ≠ j ∧ i ∈ deps ops j ∧ Anti ops i j) := by
  unfold okReads at h
  intro t ht j hj
  have hr := rdsB_spec hi ht hj
  have h2 := List.all_eq_true.1 h j (List.mem_range.2 (dst_lt hj))
  rw [hr] at h2
  by_cases hd : j ∈ deps ops i
  · exact .inl hd
  · right
    simp only [Bool.not_true, Bool.false_or, Bool.or_eq_true, Bool.and_eq_true, bne_iff_ne, ne_eq, List.contains_eq_mem, decide_eq_true_eq] at h2
    exact ⟨(h2.resolve_left hd).1, (h2.resolve_left hd).2, hr, hd⟩

theorem mem_deps {i j : Nat} {o : Oper} (hi : ops[i]? = some o) : j ∈ deps ops i ↔ ∃ e ∈ o.after, Region.binds .any e = true ∧ e.on = j := by
  unfold deps
  rw [hi]
  simp [bindsAny, List.mem_map, List.mem_filter, and_assoc]

/-- A ready operation looks at what is done alone. -/
theorem ready_like {V : List Nat} {listed : Array Bool} {a b : Act} {w : World} (hv : Virt P ops V listed a b w) (hsel : Region.noSelect ops = true) {i : Nat} {o : Oper} (hr : okReads ops ops.size i = true) (hi : ops[i]? = some o) (hready : i ∈ Region.ready .any ops listed) :
    execOp a.eval o = execOp b.eval o ∧ Region.wanted o (yielded ops a.tmps) = Region.wanted o (yielded ops b.tmps) := by
  refine same_exec (fun cs bb => Region.noSelect_spec hsel i o cs bb hi) (fun t ht => hv.same t (fun j hj hjl hjd => ?_))
  obtain ⟨hun, o', ho', hall⟩ := mem_ready.1 hready
  rw [hi] at ho'; cases ho'
  have := (reads_spec hr hi t ht j hjd).resolve_right (fun h => by
    have := hv.anti i j hj hjl h.2.2
    rw [this] at hun; cases hun)
  obtain ⟨e, he, hb, rfl⟩ := (mem_deps hi).1 this
  have h1 := hall e he hb
  have hlt : e.on < ops.size := by
    unfold dstOf at hjd
    cases ho : ops[e.on]? with
    | none => rw [ho] at hjd; cases hjd
    | some o' => exact (Array.getElem?_eq_some_iff.1 ho).1
  rw [Array.getD_eq_getD_getElem?, Array.getElem?_eq_getElem (by rw [hv.lsz]; exact hlt)] at h1 hjl
  simp at h1 hjl
  rw [h1] at hjl; cases hjl

/-- A quiet operation that was done ahead is done. -/
theorem virt_real {V : List Nat} {listed : Array Bool} {a b : Act} {w : World} (hv : Virt P ops V listed a b w) (hsel : Region.noSelect ops = true) {i : Nat} {o : Oper} (hr : okReads ops ops.size i = true) (hi : ops[i]? = some o)
    (hready : i ∈ Region.ready .any ops listed) (hiV : i ∈ V) {K : Act → World → Prop} (hk : ∀ v, Virt P ops V (listed.setIfInBounds i true) (a.put o.dst v) b w → K (a.put o.dst v) w) : wpOp P ops Q i K a w := by
  obtain ⟨he, hw⟩ := ready_like hv hsel hr hi hready
  have hlt : i < ops.size := (Array.getElem?_eq_some_iff.1 hi).1
  obtain ⟨hun, o', ho', hall⟩ := mem_ready.1 hready
  rw [hi] at ho'; cases ho'
  have hun' : listed.getD i false = false := by
    rw [Array.getD_eq_getD_getElem?, Array.getElem?_eq_getElem (by rw [hv.lsz]; exact hlt)] at hun ⊢
    exact hun
  obtain ⟨hdst, v, hvd, hyl⟩ := hv.ahead i hiV hun o hi
  obtain ⟨d, hd⟩ := Option.isSome_iff_exists.1 hdst
  have hset : ∀ j dd, j ≠ i → (listed.setIfInBounds i true).getD j dd = listed.getD j dd := fun j dd hj => getD_set_ne dd (Ne.symm hj)
  have hgot : (listed.setIfInBounds i true).getD i true = true := by
    rw [Array.getD_eq_getD_getElem?, Array.getElem?_setIfInBounds_self_of_lt (by rw [hv.lsz]; exact hlt)]; rfl
  have hb := hvd d hd
  have hlen : d < a.tmps.size := by rw [hv.size]; exact (Array.getElem?_eq_some_iff.1 hb).1
  have hvirt : Virt P ops V (listed.setIfInBounds i true) (a.put o.dst v) b w := by
    refine ⟨by rw [hd]; exact hv.defers, ?_, fun k hk => ?_, fun j hj hjl => ?_, fun j hj hjl => ?_, by simpa using hv.lsz, fun j hj hjl kk hkk => ?_, fun i' j hj hjl ha => ?_⟩
    · rw [hd]; simp only [Act.put, Array.size_setIfInBounds]; exact hv.size
    · rw [hd]
      simp only [Act.put]
      by_cases hkd : k = d
      · subst hkd
        rw [Array.getElem?_setIfInBounds_self_of_lt hlen, hb]
      · rw [Array.getElem?_setIfInBounds_ne (Ne.symm hkd)]
        refine hv.same k (fun j hj hjl hjd => ?_)
        by_cases hji : j = i
        · subst hji
          unfold dstOf at hjd
          rw [hi] at hjd
          simp only [Option.bind_some, hd, Option.some.injEq] at hjd
          exact hkd hjd.symm
        · exact hk j hj (by rw [hset j true hji]; exact hjl) hjd
    · by_cases hji : j = i
      · subst hji; rw [hgot] at hjl; cases hjl
      · rw [hset j true hji] at hjl
        exact hv.ahead j hj hjl
    · by_cases hji : j = i
      · subst hji; exact hiV
      · rw [hset j true hji] at hjl
        exact hv.sub j hj hjl
    · by_cases hji : j = i
      · subst hji
        obtain ⟨e, he, hb, rfl⟩ := (mem_deps hi).1 hkk
        exact getD_set_true (hall e he hb)
      · rw [hset j true hji] at hjl
        exact getD_set_true (hv.down j hj hjl kk hkk)
    · by_cases hji : j = i
      · subst hji; rw [hgot] at hjl; cases hjl
      · rw [hset j true hji] at hjl
        exact getD_set_tt (hv.anti i' j hj hjl ha)
  unfold wpOp
  rw [hi]
  simp only
  rw [hw]
  rcases hyl with ⟨h1, h2⟩ | ⟨h1, h2⟩
  · rw [h1, if_pos rfl]
    refine .inl ?_
    unfold Oper.wp Oper.upon
    rw [he, h2]
    exact hk v hvirt
  · rw [h1, if_neg (by simp)]
    subst h2
    exact hk _ hvirt

/-- A quiet operation, done ahead. -/
theorem quiet_run {o : Oper} {ao : AOper} (hok : okO P S.nt ops o ao = true) (hq : ao.op.quiet = true) {s : SS} {E : En} {b : Act} (hs : Sat S s E b) {K : SV → Prop} (h : evC ao.op s K) :
    ∃ x v, K x ∧ den E x v ∧ (execOp b.eval o).run P E.w = .ok (.value v) E.w := by
  simp only [okO, Bool.and_eq_true, beq_iff_eq] at hok
  obtain ⟨⟨_, hop⟩, _⟩ := hok
  rw [hq] at hop
  simp only at hop
  obtain ⟨q, he, hneed, hk⟩ := evC_spec h
  obtain ⟨hyp, v, hr, hv⟩ := ev_sound hop hs.hs hs.fr he hneed
  exact ⟨_, v, hk hyp, hv, hr⟩

theorem okO_dst {o : Oper} {ao : AOper} (hok : okO P S.nt ops o ao = true) : o.dst = ao.dst ∧ ∀ k, ao.dst = some k → k < S.nt := by
  simp only [okO, Bool.and_eq_true, beq_iff_eq] at hok
  obtain ⟨⟨⟨hd, hlt⟩, _⟩, _⟩ := hok
  refine ⟨hd, fun k hk => ?_⟩
  rw [hk] at hlt
  simpa using hlt

theorem okO_noguard {o : Oper} {ao : AOper} (hok : okO P S.nt ops o ao = true) (hg : ao.guard = none) (b : Act) : Region.wanted o (yielded ops b.tmps) = true := by
  simp only [okO, Bool.and_eq_true] at hok
  obtain ⟨_, h⟩ := hok
  rw [hg] at h
  cases ho : o.guard with
  | none => simp [Region.wanted, ho]
  | some x => simp [ho] at h

theorem okO_guard {o : Oper} {ao : AOper} (hok : okO P S.nt ops o ao = true) {slot : Nat} {want : Bool} (hg : ao.guard = some (slot, want)) {s : SS} {E : En} {b : Act} (hs : Sat S s E b) {c : Bool} (hc : lkF s.fr slot = .bool c) :
    Region.wanted o (yielded ops b.tmps) = (c == want) := by
  simp only [okO, Bool.and_eq_true] at hok
  obtain ⟨_, h⟩ := hok
  rw [hg] at h
  cases ho : o.guard with
  | none => simp [ho] at h
  | some x =>
    obtain ⟨j, w⟩ := x
    simp only [ho, Bool.and_eq_true, beq_iff_eq, decide_eq_true_eq] at h
    obtain ⟨⟨rfl, h2⟩, h3⟩ := h
    have hfr := hs.fr slot
    rw [hc] at hfr
    have hy := yielded_den h2 hfr (by rw [hs.size]; exact h3)
    simp only [Region.wanted, ho, hy]
    cases c <;> cases w <;> rfl

theorem okO_guardT {o : Oper} {ao : AOper} (hok : okO P S.nt ops o ao = true) {slot : Nat} {want : Bool} (hg : ao.guard = some (slot, want)) {s : SS} {E : En} {b : Act} (hs : Sat S s E b) (hc : lkF s.fr slot = .tup []) :
    Region.wanted o (yielded ops b.tmps) = false := by
  simp only [okO, Bool.and_eq_true] at hok
  obtain ⟨_, h⟩ := hok
  rw [hg] at h
  cases ho : o.guard with
  | none => simp [ho] at h
  | some x =>
    obtain ⟨j, w⟩ := x
    simp only [ho, Bool.and_eq_true, beq_iff_eq, decide_eq_true_eq] at h
    obtain ⟨⟨rfl, h2⟩, h3⟩ := h
    have hfr := hs.fr slot
    rw [hc] at hfr
    simp [Region.wanted, ho, yielded_tup h2 hfr]

/-- What a slot holds may be laid there anew. -/
theorem Sat.reput {s : SS} {E : En} {b : Act} (hs : Sat S s E b) {d : Nat} {v : Value} (hv : den E (lkF s.fr d) v) : Sat S s E (b.put (some d) v) := by
  refine ⟨hs.hs, fun k => ?_, hs.ev, hs.id, hs.defers, by simp only [Act.put]; rw [Array.size_setIfInBounds]; exact hs.size⟩
  simp only [Act.put]
  by_cases hkd : k = d
  · subst hkd
    by_cases hlt : k < b.tmps.size
    · rw [Array.getD_eq_getD_getElem?, Array.getElem?_setIfInBounds_self_of_lt hlt]; exact hv
    · have hle : b.tmps.size ≤ k := Nat.le_of_not_lt hlt
      rw [Array.setIfInBounds_eq_of_size_le hle]; exact hs.fr k
  · rw [Array.getD_eq_getD_getElem?, Array.getElem?_setIfInBounds_ne (Ne.symm hkd), ← Array.getD_eq_getD_getElem?]
    exact hs.fr k

theorem chk1_val {o : Oper} {ao : AOper} (hok : okO P S.nt ops o ao = true) (hq : ao.op.quiet = true) {s : SS} {E : En} {b : Act} (hs : Sat S s E b) (h : chk1 ao s) {d : Nat} (hd : ao.dst = some d) :
    ∃ v, den E (lkF s.fr d) v ∧ ((Region.wanted o (yielded ops b.tmps) = true ∧ (execOp b.eval o).run P E.w = .ok (.value v) E.w) ∨ (Region.wanted o (yielded ops b.tmps) = false ∧ v = undef)) := by
  unfold chk1 at h
  split at h
  · rename_i hg
    obtain ⟨x, v, h1, h2, h3⟩ := quiet_run hok hq hs h
    rw [hd] at h1
    exact ⟨v, by rw [show lkF s.fr d = x from h1]; exact h2, .inl ⟨okO_noguard hok hg b, h3⟩⟩
  · rename_i slot want hg
    split at h
    · rename_i c hc
      have hw := okO_guard hok hg hs hc
      cases hcw : c == want with
      | true =>
        obtain ⟨x, v, h1, h2, h3⟩ := quiet_run hok hq hs (sw_true h hcw)
        rw [hd] at h1
        exact ⟨v, by rw [show lkF s.fr d = x from h1]; exact h2, .inl ⟨by rw [hw, hcw], h3⟩⟩
      | false =>
        have h1 := sw_false h hcw
        rw [hd] at h1
        exact ⟨undef, by rw [show lkF s.fr d = .tup [] from h1]; exact den_undef, .inr ⟨by rw [hw, hcw], rfl⟩⟩
    · rename_i hc
      have hw := okO_guardT (ops := ops) hok hg hs hc
      rw [hd] at h
      exact ⟨undef, by rw [show lkF s.fr d = .tup [] from h]; exact den_undef, .inr ⟨hw, rfl⟩⟩
    · cases h

structure Okd (P : Program) (S : Start) (ops : Array Oper) (al : List AOper) : Prop where
  ok : ∀ i o, ops[i]? = some o → okO P S.nt ops o (atA al i) = true
  sel : Region.noSelect ops = true
  dst : ∀ i j d, dstOf ops i = some d → dstOf ops j = some d → i = j
  reads : ∀ i, i < ops.size → okReads ops ops.size i = true

theorem Yl.put_other {hO : Okd P S ops al} {i : Nat} {o : Oper} (hi : ops[i]? = some o) {b : Act} {w : World} {j d : Nat} (hj : dstOf ops j = some d) (hji : j ≠ i) (hnd : j ∉ deps ops i) (hna : ¬ Anti ops i j) {v : Value} (h : Yl P ops o b w) : Yl P ops o (b.put (some d) v) w := by
  have hlt : i < ops.size := (Array.getElem?_eq_some_iff.1 hi).1
  refine h.congr (fun cs bb => Region.noSelect_spec hO.sel i o cs bb hi) (fun t ht => ?_) (fun d' hd' => ?_)
  · have : d ≠ t := fun e => by subst e; exact hna ⟨rdsB_spec hi ht hj, hnd⟩
    simp only [Act.put]
    rw [Array.getElem?_setIfInBounds_ne this]
  · have : d ≠ d' := fun e => by
      subst e
      exact hji (hO.dst j i d hj (by unfold dstOf; rw [hi]; exact hd'))
    simp only [Act.put]
    rw [Array.getElem?_setIfInBounds_ne this]

/-- BEHIND AN EFFECT: what was ahead is done anew. -/
theorem rerun (hO : Okd P S ops al) {listed : Array Bool} {s : SS} {E : En} : ∀ (pend : List Nat) (b : Act), okPend ops pend = true → (∀ j ∈ pend, j < ops.size ∧ isQ al j = true) → Sat S s E b → chkL al pend s →
    ∃ b', Sat S s E b' ∧ b'.tmps.size = b.tmps.size ∧ (∀ k, (∀ j ∈ pend, listed.getD j true = false → dstOf ops j ≠ some k) → b'.tmps[k]? = b.tmps[k]?) ∧
      ∀ j ∈ pend, listed.getD j true = false → ∀ o, ops[j]? = some o → o.dst.isSome = true ∧ Yl P ops o b' E.w
  | [], b, _, _, hs, _ => ⟨b, hs, rfl, fun _ _ => rfl, fun j hj => by cases hj⟩
  | i :: r, b, hp, hl, hs, hc => by
    simp only [okPend, Bool.and_eq_true, Bool.not_eq_true', List.all_eq_true] at hp
    obtain ⟨⟨hp1, hp2⟩, hp3⟩ := hp
    obtain ⟨hc1, hc2⟩ := hc
    obtain ⟨hlt, hq⟩ := hl i (by simp)
    have hl' : ∀ j ∈ r, j < ops.size ∧ isQ al j = true := fun j hj => hl j (List.mem_cons_of_mem _ hj)
    cases hli : listed.getD i true with
    | true =>
      obtain ⟨b', h1, h2, h3, h4⟩ := rerun hO (listed := listed) r b hp3 hl' hs hc2
      refine ⟨b', h1, h2, fun k hk => h3 k (fun j hj hjl => hk j (List.mem_cons_of_mem _ hj) hjl), fun j hj hjl => ?_⟩
      rcases List.mem_cons.1 hj with rfl | hj
      · rw [hli] at hjl; cases hjl
      · exact h4 j hj hjl
    | false =>
      have hi : ops[i]? = some ops[i] := Array.getElem?_eq_getElem hlt
      have hok := hO.ok i _ hi
      obtain ⟨hdo, hdlt⟩ := okO_dst hok
      unfold isQ at hq
      simp only [Bool.and_eq_true] at hq
      obtain ⟨d, hd⟩ := Option.isSome_iff_exists.1 hq.2
      obtain ⟨v, hv, hy⟩ := chk1_val hok hq.1 hs hc1 hd
      have hdi : dstOf ops i = some d := by unfold dstOf; rw [hi]; exact hdo.trans hd
      have hdl : d < b.tmps.size := by rw [hs.size]; exact hdlt d hd
      have hs1 := hs.reput hv
      obtain ⟨b', h1, h2, h3, h4⟩ := rerun hO (listed := listed) r (b.put (some d) v) hp3 hl' hs1 hc2
      have hsel : ∀ cs bb, (ops[i]).op ≠ .select cs bb := fun cs bb => Region.noSelect_spec hO.sel i _ cs bb hi
      have hown : ∀ t ∈ (ops[i]).looksAt ops, d ≠ t := fun t ht e => by
        subst e
        rw [rdsB_spec hi ht hdi] at hp1
        cases hp1
      have hy1 : Yl P ops ops[i] (b.put (some d) v) E.w := by
        obtain ⟨e1, e2⟩ := same_exec (ops := ops) (o := ops[i]) (a := b.put (some d) v) (b := b) hsel (fun t ht => by
          simp only [Act.put]; rw [Array.getElem?_setIfInBounds_ne (hown t ht)])
        refine ⟨v, fun d' hd' => ?_, ?_⟩
        · rw [hdo, hd] at hd'
          cases hd'
          simp only [Act.put]
          rw [Array.getElem?_setIfInBounds_self_of_lt hdl]
        · rw [e1, e2]; exact hy
      refine ⟨b', h1, by rw [h2]; simp only [Act.put, Array.size_setIfInBounds], fun k hk => ?_, fun j hj hjl => ?_⟩
      · rw [h3 k (fun j hj hjl => hk j (List.mem_cons_of_mem _ hj) hjl)]
        simp only [Act.put]
        rw [Array.getElem?_setIfInBounds_ne (fun e => hk i (by simp) hli (by rw [hdi, e]))]
      · rcases List.mem_cons.1 hj with rfl | hj
        · intro o ho
          rw [hi] at ho; cases ho
          refine ⟨by rw [hdo, hd]; rfl, hy1.congr hsel (fun t ht => ?_) (fun d' hd' => ?_)⟩
          · refine (h3 t (fun j hj hjl hjd => ?_)).symm
            have h5 := hp2 j hj
            simp [rdsB_spec hi ht hjd] at h5
          · refine (h3 d' (fun j' hj' hjl' hjd => ?_)).symm
            rw [hdo, hd] at hd'
            cases hd'
            have h5 := hp2 j' hj'
            have := hO.dst _ j' d hdi hjd
            simp [this] at h5
        · exact h4 j hj hjl

end drawn
end Go.V
