/- The check of an operation's text, and: a quiet operation comes to what 'ev' says. -/
import Derived.Test.YtkjecjgfkogkoaaVf
namespace Go.V
set_option linter.unusedSimpArgs false
set_option linter.unnecessarySimpa false
set_option linter.unusedVariables false

def agOf (P : Program) (t : TypeId) : Option Bool :=
  match P.underlying t with
  | some (.struct _) => some true
  | some (.array _ _) => some true
  | some _ => some false
  | none => none

def szOf (P : Program) (t : TypeId) : Option Nat := (P.info? t).map (·.size)

def okOpds : List Operand → List Opd → Bool
  | [], [] => true
  | x :: xs, y :: ys => okOpd x y && okOpds xs ys
  | _, _ => false

def okOpdO : Option Operand → Option Opd → Bool
  | none, none => true
  | some x, some y => okOpd x y
  | _, _ => false

/-- Field f of the struct type T. -/
def fieldOf (P : Program) (T f : Nat) : Option Field :=
  match P.underlying T with
  | some (.struct fs) => fs[f]?
  | _ => none

def zeroOf (P : Program) (T : TypeId) : Option Value := (P.info? T).bind (·.zero)

def okKind (P : Program) (T : TypeId) : NK → Bool
  | .p => match P.underlying T with | some (.pointer _) => true | _ => false
  | .s => match P.underlying T with | some (.slice _) => true | _ => false
  | .m => match P.underlying T with | some (.map _ _) => true | _ => false
  | .f => match P.underlying T with | some (.func _ _ _) => true | _ => false
  | .i => match P.underlying T with | some .string => true | _ => false

/-- Where a struct's fields lie, and how many cells they have. -/
def placesOf (P : Program) (T : TypeId) : Option (List (Nat × Nat)) :=
  match P.underlying T with
  | some (.struct fs) => fs.toList.mapM fun f => (P.info? f.type).map fun i => (f.offset, i.size)
  | _ => none

def okParts (pl : List (Nat × Nat)) : List (Nat × Operand) → List (Nat × Nat × Opd) → Bool
  | [], [] => true
  | (f, x) :: r, (off, n, y) :: r' => pl[f]? == some (off, n) && okOpd x y && okParts pl r r'
  | _, _ => false

def okKey (P : Program) (K : TypeId) (t : Ty) : Bool :=
  match P.underlying K with
  | some (.int k) => decide (t = .int k)
  | some .string => decide (t = .str)
  | some .bool => decide (t = .bool)
  | _ => false

/-- The type's zero value reads as the plain zero. -/
def okZero (P : Program) (T : TypeId) (va : Bool) (t : Ty) : Bool :=
  match zeroOf P T with
  | some (.agg cs) => va && (match cstRd t t.dflt cs.toList with | some [] => true | _ => false)
  | some v => !va && (match cstRd t t.dflt [v] with | some [] => true | _ => false)
  | none => false

/-- The layer's text of a quiet operation is the operation. -/
def okQ (P : Program) (o : Op) : AOp → Bool
  | .mv y => match o with
    | .move x => okOpd x y
    | .assign x => okOpd x y
    | _ => false
  | .pick c a b => match o with
    | .pick c' a' b' => okOpd c' c && okOpd a' a && okOpd b' b
    | _ => false
  | .nck y => match o with
    | .nilCheck x => okOpd x y
    | _ => false
  | .fld off n y => match o with
    | .field T x f => okOpd x y && (match fieldOf P T f with
      | some fd => fd.offset == off && (match n with
        | none => agOf P fd.type == some false
        | some n => agOf P fd.type == some true && szOf P fd.type == some n)
      | none => false)
    | _ => false
  | .fa off y => match o with
    | .fieldAddr T x f => okOpd x y && (match fieldOf P T f with
      | some fd => fd.offset == off && (match szOf P fd.type with | some n => n != 0 | none => false)
      | none => false)
    | _ => false
  | .ia sz y j => match o with
    | .indexAddr T x i => okOpd x y && okOpd i j && (match P.underlying T with
      | some (.slice e) => szOf P e == some sz
      | _ => false)
    | _ => false
  | .iaA len sz y j => match o with
    | .indexAddr T x i => okOpd x y && okOpd i j && (match P.underlying T with
      | some (.array n e) => n == len && szOf P e == some sz
      | _ => false)
    | _ => false
  | .ixS y j => match o with
    | .index T x i => okOpd x y && okOpd i j && okKind P T .i
    | _ => false
  | .ld y => match o with
    | .load T x => okOpd x y && agOf P T == some false
    | _ => false
  | .ldA n y => match o with
    | .load T x => okOpd x y && agOf P T == some true && szOf P T == some n
    | _ => false
  | .bin op y z => match o with
    | .binOp op' T x x' _ => decide (op' = op) && okOpd x y && okOpd x' z
    | _ => false
  | .binB ng y z => match o with
    | .binOp op' T x x' _ => decide (op' = if ng then .neq else .eql) && okOpd x y && okOpd x' z && (match P.underlying T with | some .bool => true | _ => false)
    | _ => false
  | .eqn ng k y z => match o with
    | .binOp op' T x x' _ => decide (op' = if ng then .neq else .eql) && okOpd x y && okOpd x' z && okKind P T k
    | _ => false
  | .not y => match o with
    | .unOp .not _ x => okOpd x y
    | _ => false
  | .neg y => match o with
    | .unOp .neg _ x => okOpd x y
    | _ => false
  | .cv k y => match o with
    | .convert S D x => okOpd x y && (P.underlying S).isSome && (match P.underlying D with | some (.int k') => decide (k' = k) | _ => false)
    | _ => false
  | .cvS y => match o with
    | .convert S D x => okOpd x y && okKind P S .i && okKind P D .i
    | _ => false
  | .b2s y => match o with
    | .convert S D x => okOpd x y && okKind P D .i && (match P.underlying S with
      | some (.slice e) => (match P.underlying e with | some (.int .u8) => true | _ => false)
      | _ => false)
    | _ => false
  | .ext y i => match o with
    | .extract x j => okOpd x y && i == j
    | _ => false
  | .len k y => match o with
    | .call { callee := .builtin .len, args := args, argTypes := ts } => okOpds args.toList [y] && (match ts.toList with | [T] => okKind P T k | _ => false)
    | _ => false
  | .mm mx y z => match o with
    | .call { callee := .builtin b, args := args, argTypes := _ } => okOpds args.toList [y, z] && (match b with | .max => mx | .min => !mx | _ => false)
    | _ => false
  | .lk va kt vt ok y k => match o with
    | .lookup T x i c => okOpd x y && okOpd i k && c == ok && (match P.underlying T with
      | some (.map K V) => okKey P K kt && okZero P V va vt
      | _ => false)
    | _ => false
  | .bld zs ps => match o with
    | .build T parts => (match placesOf P T with
      | some pl => okParts pl parts.toList ps
      | none => false) && (match zeroOf P T with
      | some z => cstC zs z.cells.toList
      | none => false)
    | _ => false
  | .mkf f caps => match o with
    | .makeFunc (.func g) first cs => g == f && first.isEmpty && okOpds cs.toList caps
    | _ => false
  | .slS y lo hi => match o with
    | .slice T x l h m => okOpd x y && okOpdO l lo && okOpdO h hi && m.isNone && okKind P T .i
    | _ => false
  | .slR sz y lo hi => match o with
    | .slice T x l h m => okOpd x y && okOpdO l lo && okOpdO h hi && m.isNone && (match P.underlying T with
      | some (.slice e) => szOf P e == some sz
      | _ => false)
    | _ => false
  | _ => false

section quiet
variable {P : Program} {o : Oper} {s : SS} {E : En} {a : Act} {q : QR}

/-- An operation comes to a value that q tells, and changes nothing. -/
def Comes1 (P : Program) (o : Oper) (a : Act) (E : En) (q : QR) : Prop := q.hyp ∧ ∃ v, (execOp a.eval o).run P E.w = .ok (.value v) E.w ∧ den E q.val v

theorem q_mv {y : Opd} (hok : okQ P o.op (.mv y) = true) (hf : Fr E s.fr a) (he : ev (.mv y) s = some q) : Comes1 P o a E q := by
  simp only [ev] at he; cases he
  refine ⟨trivial, ?_⟩
  cases ho : o.op <;> simp only [okQ, ho] at hok <;> first | cases hok | skip
  all_goals exact ⟨_, by simp [execOp, ho], get_sound hok hf⟩

theorem q_pick {c x y : Opd} (hok : okQ P o.op (.pick c x y) = true) (hf : Fr E s.fr a) (he : ev (.pick c x y) s = some q) : Comes1 P o a E q := by
  cases ho : o.op <;> simp only [okQ, ho] at hok <;> first | cases hok | skip
  rename_i c' x' y'
  simp only [Bool.and_eq_true] at hok
  obtain ⟨⟨h1, h2⟩, h3⟩ := hok
  have g1 := get_sound h1 hf
  have g2 := get_sound h2 hf
  have g3 := get_sound h3 hf
  simp only [ev] at he
  split at he
  · rename_i b hb
    cases he
    rw [hb] at g1
    simp only [den] at g1
    refine ⟨trivial, if b then a.eval x' else a.eval y', by simp [execOp, ho, g1, asBool], ?_⟩
    simp only [pickV]
    split
    · rename_i p r hp hr
      rw [hp] at g2; rw [hr] at g3
      simp only [den] at g2 g3 ⊢
      rw [g2, g3]
      cases b <;> rfl
    · cases b
      · exact g3
      · exact g2
  · cases he

end quiet
end Go.V
