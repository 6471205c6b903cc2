/- The operations that do something, and that they do. -/
import Derived.Test.YtkjecjgfkogkoaaVnb
namespace Go.V
set_option linter.unusedSimpArgs false
set_option linter.unnecessarySimpa false
set_option linter.unusedVariables false

def lkC : List (Nat × Contract) → Nat → Option Contract
  | [], _ => none
  | (k, c) :: r, n => bif k == n then some c else lkC r n

/-- A list's content, to be laid behind another one. -/
def srcOf (hp : List SB) (t : Ty) (y : SV) : Option (List t.den) :=
  match y with
  | .nils => some []
  | .str b => if h : Ty.byte = t then some (castT h (b.data.toList : List UInt8)) else none
  | y => match cont hp y with
    | some C => if h : C.t = t then (if C.p || t.flat then some (castT h C.xs) else none) else none
    | none => none

def pushS (s : SS) (b : SB) : SS := ⟨s.fr, s.hp ++ [b]⟩

/-- Resource i anew; it lies where it lay. -/
def setS (s : SS) (i : Nat) (b : SB) : SS := ⟨s.fr, s.hp.set i b⟩

/-- Row i anew; it may lie elsewhere: what named it is forgotten. -/
def movS (s : SS) (i : Nat) (b : SB) : SS := ⟨frRen (but i) s.fr, (s.hp.map (SB.ren (but i))).set i b⟩

/-- What is known of a source's length. -/
def srcH (hp : List SB) (y : SV) : Prop :=
  match y with
  | .str b => b.size ≤ maxLen
  | y => match cont hp y with
    | some C => C.xs.length * C.eb ≤ 140737488355328
    | none => True

def app1 (eb : Nat) (t : Ty) (s : SS) (x : SV) (H : Prop) (ys : Option (List t.den)) (K : SV → SS → Prop) : Prop :=
  match ys with
  | none => False
  | some ys => match x with
    | .nils => (H → ys.length * eb ≤ 140737488355328) ∧ (ys.length * eb ≤ 140737488355328 → K (.own s.hp.length) (pushS s (.row true eb t ys)))
    | .own i => match s.hp[i]? with
      | some (.row _ eb' t' xs) => if h : t' = t then eb' = eb ∧ (H → xs.length * eb ≤ 140737488355328 → (xs.length + ys.length) * eb ≤ 140737488355328) ∧
          ((xs.length + ys.length) * eb ≤ 140737488355328 → K (.own i) (movS s i (.row true eb t (castT h xs ++ ys)))) else False
      | _ => False
    | _ => False

def st1 (n : Nat) (s : SS) (x : SV) (new : Option (List SV)) (K : SV → SS → Prop) : Prop :=
  match new with
  | none => False
  | some new => if widthL new = n then match x with
      | .ptr i off => match s.hp[i]? with
        | some (.struct cells) => match splC cells off new with
          | some cells' => K .junk (setS s i (.struct cells'))
          | none => False
        | _ => False
      | .el i m sz off => match s.hp[i]? with
        | some (.row mv eb t xs) => if sz = t.size then match splC (t.sv true (xs.getD m t.dflt)) off new with
            | some l => match t.ofSv l with
              | some (y, []) => m < xs.length ∧ (m < xs.length → K .junk (setS s i (.row mv eb t (xs.set m y))))
              | _ => False
            | none => False
          else False
        | _ => False
      | .ptrA i off m sz => match s.hp[i]? with
        | some (.struct cells) => match takeC cells off with
          | some pre => match dropC cells off with
            | some (.arr k t xs :: rest) => if sz = t.size then match t.ofSv new with
                | some (y, []) => m < k ∧ (m < k → K .junk (setS s i (.struct (pre ++ (.arr k t (xs.set m y) :: rest)))))
                | _ => False
              else False
            | _ => False
          | none => False
        | _ => False
      | _ => False
    else False

def isEl : SV → Bool
  | .el _ _ _ _ => true
  | _ => false

/-- May all of these lie in cells? -/
def onesL (l : List SV) : Bool := l.all fun y => y.one || y.isArr

theorem onesL_spec {l : List SV} (h : onesL l = true) : ∀ y ∈ l, y.one = true ∨ y.isArr = true := by
  intro y hy
  have := List.all_eq_true.1 h y hy
  simpa using this

def ones (l : Option (List SV)) : Bool :=
  match l with
  | some l => onesL l
  | none => false

def stores (n : Nat) (s : SS) (x v : SV) (K : SV → SS → Prop) : Prop :=
  match isEl x with
  | true => match flatS v with
    | some l => onesL (frzAll s l (SV.rowsL l)).2 = true ∧ st1 n (frzAll s l (SV.rowsL l)).1 x (some (frzAll s l (SV.rowsL l)).2) K
    | none => False
  | false => ones (flatS (settle s v).1) = true ∧ st1 n (settle s v).2 x (flatS (settle s v).1) K

def bsl2 (eb : Nat) (t : Ty) (s : SS) (xs : Option (List t.den)) (K : SV → SS → Prop) : Prop :=
  match xs with
  | some xs => K (.own s.hp.length) (pushS s (.row true eb t xs))
  | none => False

/-- A new row of these cells. -/
def bsl1 (eb : Nat) (t : Ty) (n : Nat) (s : SS) (l : Option (List SV)) (K : SV → SS → Prop) : Prop :=
  match l with
  | some l => bsl2 eb t (frzAll s l (SV.rowsL l)).1 (t.ofSvL n (frzAll s l (SV.rowsL l)).2) K
  | none => False

def updM (kt vt : Ty) (m : List (kt.den × vt.den)) (k : kt.den) (v : vt.den) : List (kt.den × vt.den) :=
  match m with
  | [] => [(k, v)]
  | (k', v') :: r => bif kt.beq k' k then (k', v) :: r else (k', v') :: updM kt vt r k v

def delM (kt vt : Ty) (m : List (kt.den × vt.den)) (k : kt.den) : List (kt.den × vt.den) := m.filter fun e => !kt.beq e.1 k

/-- A value's cells, as a map's entry holds it. -/
def valC (va : Bool) (v : SV) : Option (List SV) :=
  match va with
  | true => match v with
    | .agg l => some l
    | _ => none
  | false => if v.one then some [v] else none

def mu3 (va : Bool) (kt vt : Ty) (m : List (kt.den × vt.den)) (i : Nat) (key : kt.den) (s : SS) (y : Option (vt.den × List SV)) (K : SV → SS → Prop) : Prop :=
  match y with
  | some (y, []) => K .junk (setS s i (.map va kt vt (updM kt vt m key y)))
  | _ => False

def mu2 (va : Bool) (kt vt : Ty) (m : List (kt.den × vt.den)) (i : Nat) (s : SS) (key : Option kt.den) (l : Option (List SV)) (K : SV → SS → Prop) : Prop :=
  match key with
  | some key => match l with
    | some l => mu3 va kt vt m i key (frzAll s l (SV.rowsL l)).1 (vt.ofSv (frzAll s l (SV.rowsL l)).2) K
    | none => False
  | none => False

def mu0 (va : Bool) (kt vt : Ty) (s : SS) (b : Option SB) (i : Nat) (k v : SV) (K : SV → SS → Prop) : Prop :=
  match b with
  | some (.map va' kt' vt' m) => (va' = va ∧ kt' = kt ∧ vt' = vt) ∧ m.length + 1 ≤ maxLen ∧ mu2 va' kt' vt' m i s (kt'.keyOf k) (valC va' v) K
  | _ => False

def mu1 (va : Bool) (kt vt : Ty) (s : SS) (x k v : SV) (K : SV → SS → Prop) : Prop :=
  match x with
  | .mp i => mu0 va kt vt s (s.hp[i]?) i k v K
  | _ => False

/-- What an operation that does something comes to; K: what is to hold of its value and of the state behind it. -/
def eff (Γ : List (Nat × Contract)) (o : AOp) (s : SS) (K : SV → SS → Prop) : Prop :=
  match o with
  | .isn ng x => match s.get x with
    | .nils => K (.bool (!ng)) s
    | y => match cont s.hp y with
      | some C => ∀ b : Bool, (b = true → C.xs = []) → K (.bool (bif ng then !b else b)) s
      | none => False
  | .alc zs => K (.ptr s.hp.length 0) (pushS s (.struct zs))
  | .box x => match flatS (s.get x) with
    | some l => K (.ptr s.hp.length 0) (pushS s (.struct l))
    | none => False
  | .st n x v => stores n s (s.get x) (s.get v) K
  | .mu va kt vt m k v => mu1 va kt vt s (s.get m) (s.get k) (s.get v) K
  | .bsl eb t n parts => bsl1 eb t n s (partsC s t.size parts) K
  | .app eb t x y => app1 eb t (settle s (s.get x)).2 (settle s (s.get x)).1 (srcH s.hp (s.get y)) (srcOf s.hp t (s.get y)) K
  | .mkm va kt vt => K (.mp s.hp.length) (pushS s (.map va kt vt []))
  | .call f ms args => match lkC Γ f with
    | some C => callC1 C (lend s.hp ms (args.map s.get)) s K
    | none => False
  | .callv x ms args => match s.get x with
    | .fn f caps => match lkC Γ f with
      | some C => callC1 C (lend s.hp ms (args.map s.get ++ caps)) s K
      | none => False
    | _ => False
  | _ => False

/-- The function may be called: it has a body. -/
def Callable (P : Program) (f : FuncId) : Prop := ∃ fn, P.funcs[f]? = some fn ∧ fn.body.isSome = true ∧ fn.name ≠ "runtime.NumGoroutine"

def GOk (P : Program) (Γ : List (Nat × Contract)) : Prop := ∀ f C, lkC Γ f = some C → Sound P f C ∧ Callable P f

/-- The parts are all, one behind the other. -/
def okPartsS (n : Nat) : Nat → List (Nat × Operand) → List (Nat × Opd) → Bool
  | k, [], [] => k == n
  | k, (i, x) :: r, (_, y) :: r' => i == k && okOpd x y && okPartsS n (k + 1) r r'
  | _, _, _ => false

/-- The layer's text of an operation that does something is the operation. -/
def okE (P : Program) (o : Op) : AOp → Bool
  | .isn ng y => match o with
    | .binOp op' T x x' _ => decide (op' = if ng then .neq else .eql) && okOpd x y && okOpd x' (.c .nils) && okKind P T .s
    | _ => false
  | .alc zs => match o with
    | .alloc T => (match zeroOf P T with | some z => cstC zs z.cells.toList | none => false)
    | _ => false
  | .box y => match o with
    | .box _ x => okOpd x y
    | _ => false
  | .st n y z => match o with
    | .store T x v => okOpd x y && okOpd v z && szOf P T == some n
    | _ => false
  | .mu va kt vt y z u => match o with
    | .mapUpdate T m k v => okOpd m y && okOpd k z && okOpd v u && (match P.underlying T with
      | some (.map K V) => okKey P K kt
      | _ => false)
    | _ => false
  | .bsl eb t n ys => match o with
    | .buildSlice T m parts => m == n && okPartsS n 0 parts.toList ys && decide (n * t.size ≤ 16777216) && decide (n * eb ≤ 140737488355328) && t.size != 0 && (match P.underlying T with
      | some (.slice e) => szOf P e == some t.size && (match zeroOf P e with | some z => z.cells.size == t.size | none => false)
      | _ => false)
    | _ => false
  | .app eb t y z => match o with
    | .call { callee := .builtin .append, args := args, argTypes := ts } => okOpds args.toList [y, z] && (match ts.toList with
      | [T, U] => (match P.underlying T with
        | some (.slice e) => (match P.info? e with
          | some i => i.size == t.size && i.bytes == eb && t.size != 0 && eb != 0 && (match i.zero with | some z => z.cells.size == t.size | none => false)
          | none => false)
        | _ => false) && (okKind P U .s || okKind P U .i)
      | _ => false)
    | _ => false
  | .mkm va kt vt => match o with
    | .makeMap _ r => r.isNone
    | _ => false
  | .call f ms ys => match o with
    | .call { callee := .value (.func g), args := args, argTypes := _ } => f == g && okOpds args.toList ys
    | _ => false
  | .callv y ms ys => match o with
    | .call { callee := .value x, args := args, argTypes := _ } => okOpd x y && okOpds args.toList ys
    | _ => false
  | _ => false

section effects
variable {P : Program} {o : Oper} {S : Start} {s : SS} {E : En} {a : Act} {K : SV → SS → Prop} {next : Act → World → Prop} {Q : Exit → Act → World → Prop}

/-- What is owed of the code behind an operation. -/
def Goes (S : Start) (a : Act) (o : Oper) (K : SV → SS → Prop) (next : Act → World → Prop) : Prop :=
  ∀ x s' E' v, K x s' → den E' x v → Sat S s' E' a → next (a.put o.dst v) E'.w

theorem goes_value {x : SV} {s' : SS} {E' : En} {v : Value} (hg : Goes S a o K next) (hk : K x s') (hx : den E' x v) (hs : Sat S s' E' a) (hr : (execOp a.eval o).run P E.w = .ok (.value v) E'.w) : o.wp P a E.w next Q := by
  unfold Oper.wp Oper.upon
  rw [hr]
  exact hg x s' E' v hk hx hs

theorem e_isn {Γ : List (Nat × Contract)} {ng : Bool} {y : Opd} (hok : okE P o.op (.isn ng y) = true) (hs : Sat S s E a) (h : eff Γ (.isn ng y) s K) (hg : Goes S a o K next) : o.wp P a E.w next Q := by
  cases ho : o.op <;> simp only [okE, ho] at hok <;> first | cases hok | skip
  rename_i op' T x x' _
  simp only [Bool.and_eq_true, decide_eq_true_eq] at hok
  obtain ⟨⟨⟨rfl, h1⟩, h2⟩, h3⟩ := hok
  have g := get_sound h1 hs.fr
  have g2 := get_sound h2 hs.fr
  simp only [SS.get, den] at g2
  obtain ⟨e, hu⟩ := okKind_s h3
  simp only [eff] at h
  split at h
  · rename_i hy
    rw [hy] at g
    simp only [den] at g
    refine goes_value hg h (v := .bool (!ng)) (by simp only [den]) hs ?_
    have := eq_comes (P := P) (E := E) (b := true) ho g g2 rfl rfl (fun d => by simp [Op.equalIn, run_underlying hu])
    rw [this]; cases ng <;> rfl
  · split at h
    · rename_i C hC
      obtain ⟨A, c, hv, _, _⟩ := slr_val (cont_sound hs.hs g hC)
      have hb : A.isNone = true → C.xs = [] := by
        intro hA
        rcases cont_sound hs.hs g hC with ⟨hx, _⟩ | ⟨b, off, cap, cur, T', fr, cs, hv', _⟩
        · exact hx
        · rw [hv] at hv'; injection hv' with e1; subst e1; cases hA
      have := eq_comes (P := P) (E := E) (b := A.isNone) ho hv g2 rfl rfl (fun d => by
        cases A <;> simp [Op.equalIn, run_underlying hu])
      exact goes_value hg (h A.isNone hb) (by simp only [den]) hs this
    · cases h

end effects
end Go.V
