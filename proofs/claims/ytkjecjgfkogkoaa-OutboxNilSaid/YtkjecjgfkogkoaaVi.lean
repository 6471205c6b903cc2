/- The quiet operations, further ones; and all of them in one theorem. -/
import Derived.Test.YtkjecjgfkogkoaaVh
namespace Go.V
set_option linter.unusedSimpArgs false
set_option linter.unnecessarySimpa false
set_option linter.unusedVariables false

section quiet
variable {P : Program} {o : Oper} {s : SS} {E : En} {a : Act} {q : QR}

theorem okOpds1 {a : Act} {args : List Operand} {y : Opd} (h : okOpds args [y] = true) : ∃ x, args = [x] ∧ okOpd x y = true := by
  match args, h with
  | [x], h => simp only [okOpds, Bool.and_eq_true] at h; exact ⟨x, rfl, h.1⟩
  | [], h => simp [okOpds] at h
  | x :: x' :: r, h => simp [okOpds] at h

theorem okOpds2 {a : Act} {args : List Operand} {y z : Opd} (h : okOpds args [y, z] = true) : ∃ x x', args = [x, x'] ∧ okOpd x y = true ∧ okOpd x' z = true := by
  match args, h with
  | [x, x'], h => simp only [okOpds, Bool.and_eq_true] at h; exact ⟨x, x', rfl, h.1, h.2.1⟩
  | [], h => simp [okOpds] at h
  | [x], h => simp [okOpds] at h
  | x :: x' :: x'' :: r, h => simp [okOpds] at h

theorem okOpds_sound (hf : Fr E s.fr a) : ∀ (args : List Operand) (ys : List Opd), okOpds args ys = true → denL E (ys.map s.get) (args.map a.eval)
  | [], [], _ => by simp [denL]
  | [], _ :: _, h => by simp [okOpds] at h
  | _ :: _, [], h => by simp [okOpds] at h
  | x :: xs, y :: ys, h => by
    simp only [okOpds, Bool.and_eq_true] at h
    simp only [List.map_cons, denL]
    exact ⟨_, _, rfl, get_sound h.1 hf, okOpds_sound hf xs ys h.2⟩

theorem call_run {P : Program} {o : Oper} {a : Act} {b : Builtin} {args : Array Operand} {ts : Array TypeId} (ho : o.op = .call { callee := .builtin b, args := args, argTypes := ts }) {w : World} :
    ∃ cs, (execOp a.eval o).run P w = (builtin b ts o.type cs (args.map a.eval)).run P w := by
  simp only [execOp, ho, resolve, Sem.run_bind, Sem.run_pure, Result.andThen_ok, invoke]
  exact ⟨_, rfl⟩

theorem len_in {n : Nat} (h : n ≤ maxLen) : inR .i64 (n : Int) := by
  simp only [maxLen] at h
  simp only [inR, IntKind.min, IntKind.max, IntKind.signed, IntKind.bits]
  simp
  omega

theorem okKind_s {P : Program} {T : TypeId} (h : okKind P T .s = true) : ∃ e, P.underlying T = some (.slice e) := by
  simp only [okKind] at h; split at h
  · rename_i e hu; exact ⟨e, hu⟩
  · cases h
theorem okKind_m {P : Program} {T : TypeId} (h : okKind P T .m = true) : ∃ k e, P.underlying T = some (.map k e) := by
  simp only [okKind] at h; split at h
  · rename_i k e hu; exact ⟨k, e, hu⟩
  · cases h

theorem slr_val {α : Type} {w : World} {R : α → List Value → Prop} {eb sz : Nat} {xs : List α} {v : Value} (h : slr w R eb sz xs v) : ∃ A c, v = .slice A xs.length c ∧ xs.length ≤ maxLen ∧ xs.length * eb ≤ 140737488355328 := by
  rcases h with ⟨rfl, A, c, rfl, _⟩ | ⟨b, off, cap, cur, T, fr, cs, rfl, _, _, h1, h2, h3, _⟩
  · exact ⟨A, c, rfl, by simp, by simp⟩
  · exact ⟨_, _, rfl, Nat.le_trans h1 h2, h3⟩

theorem q_len (h : HS s.hp E) {k : NK} {y : Opd} (hok : okQ P o.op (.len k y) = true) (hf : Fr E s.fr a) (he : ev (.len k y) s = some q) : Comes1 P o a E q := by
  simp only [okQ] at hok
  split at hok
  · rename_i args ts ho
    simp only [Bool.and_eq_true] at hok
    obtain ⟨h1, h2⟩ := hok
    obtain ⟨x, hx, h3⟩ := okOpds1 (a := a) h1
    have hargs : args = #[x] := by cases args; simp_all
    subst hargs
    have g := get_sound h3 hf
    split at h2
    · rename_i T hT
      have hts : ts = #[T] := by cases ts; simp_all
      subst hts
      have hrun : ∀ v w, (Builtin.len_ #[T] o.type #[a.eval x]).run P w = .ok v w → (execOp a.eval o).run P w = .ok (.value v) w := by
        intro v w hv
        obtain ⟨cs, hc⟩ := call_run (P := P) (a := a) ho (w := w)
        rw [hc]
        simp [builtin, hv]
      cases k with
      | i =>
        simp only [ev] at he
        split at he
        · rename_i b hy
          cases he
          rw [hy] at g
          simp only [den] at g
          have hu := okKind_i h2
          exact ⟨g.2, .int .i64 b.size, hrun _ _ (by simp [Builtin.len_, g.1, run_underlying hu, goInt]), by simp only [den]; exact ⟨trivial, len_in g.2⟩⟩
        · cases he
      | m =>
        obtain ⟨k, e, hu⟩ := okKind_m h2
        simp only [ev] at he
        split at he
        · rename_i hy
          cases he
          rw [hy] at g
          simp only [den] at g
          exact ⟨trivial, .int .i64 0, hrun _ _ (by simp [Builtin.len_, g, run_underlying hu, goInt]), by simp only [den]; exact ⟨trivial, by decide⟩⟩
        · rename_i i hy
          rw [hy] at g
          simp only [den] at g
          obtain ⟨_, b, hb, hv⟩ := g
          split at he
          · rename_i va kt vt m hi
            cases he
            obtain ⟨b', es, clk, hb', hh, hm⟩ := h.ok i _ hi
            rw [hb] at hb'
            cases hb'
            have hlen : es.size = m.length := by
              have rdM_length : ∀ (m : List (kt.den × vt.den)) (es : List MapEntry), rdM E.w E.Fz va kt vt m es → es.length = m.length := by
                intro m
                induction m with
                | nil => intro es h; simp only [rdM] at h; simp [h]
                | cons x m ih => intro es h; obtain ⟨e, r, rfl, _, _, h3⟩ := h; simp [ih r h3]
              simpa using rdM_length _ _ hm.rd
            refine ⟨hm.len, .int .i64 m.length, hrun _ _ ?_, by simp only [den]; exact ⟨trivial, len_in hm.len⟩⟩
            simp [Builtin.len_, hv, run_underlying hu, getObj, Sem.run, hh, goInt, hlen]
          · cases he
        · cases he
      | s =>
        obtain ⟨e, hu⟩ := okKind_s h2
        have hsl : ∀ A (n : Nat) c, a.eval x = .slice A n c → (execOp a.eval o).run P E.w = .ok (.value (.int .i64 n)) E.w := fun A n c hv => hrun _ _ (by simp [Builtin.len_, hv, run_underlying hu, goInt])
        simp only [ev] at he
        split at he
        · rename_i hy
          cases he
          rw [hy] at g
          simp only [den] at g
          exact ⟨trivial, .int .i64 0, hsl none 0 0 g, by simp only [den]; exact ⟨trivial, by decide⟩⟩
        · split at he
          · rename_i C hC
            cases he
            obtain ⟨A, c, hv, h3, h4⟩ := slr_val (cont_sound h g hC)
            exact ⟨⟨h3, h4⟩, .int .i64 C.xs.length, hsl A _ c hv, by simp only [den]; exact ⟨trivial, len_in h3⟩⟩
          · cases he
      | p => simp only [ev] at he; cases he
      | f => simp only [ev] at he; cases he
    · cases h2
  · cases hok

theorem q_mm {mx : Bool} {y z : Opd} (hok : okQ P o.op (.mm mx y z) = true) (hf : Fr E s.fr a) (he : ev (.mm mx y z) s = some q) : Comes1 P o a E q := by
  simp only [okQ] at hok
  split at hok
  · rename_i b args ts ho
    simp only [Bool.and_eq_true] at hok
    obtain ⟨h1, h2⟩ := hok
    obtain ⟨x, x', hx, h4, h3⟩ := okOpds2 (a := a) h1
    have hargs : args = #[x, x'] := by cases args; simp_all
    subst hargs
    have g := get_sound h4 hf
    have g2 := get_sound h3 hf
    simp only [ev] at he
    split at he
    · rename_i k n hy
      split at he
      · rename_i k' n' hz
        split at he <;> try cases he
        rename_i hk
        subst hk
        rw [hy] at g; rw [hz] at g2
        simp only [den] at g g2
        refine ⟨trivial, .int k (bif mx then (if n < n' then n' else n) else (if n' < n then n' else n)), ?_, ?_⟩
        · obtain ⟨cs, hc⟩ := call_run (P := P) (a := a) ho (w := E.w)
          rw [hc]
          split at h2
          · subst h2
            simp [builtin, Builtin.max_, g.1, g2.1, Builtin.max2]
          · simp only [Bool.not_eq_true'] at h2; subst h2
            simp [builtin, Builtin.min_, g.1, g2.1, Builtin.min2]
          · cases h2
        · simp only [den]
          refine ⟨trivial, ?_⟩
          obtain ⟨_, h5, h6⟩ := g
          obtain ⟨_, h7, h8⟩ := g2
          cases mx <;> simp only [cond_true, cond_false] <;> split <;> exact ⟨by assumption, by assumption⟩
      · cases he
    · cases he
  · cases hok


theorem bytes_rd {w : World} {F : Nat → Prop} : ∀ (xs : List UInt8) (cs : List Value), rdL (rd w F .byte) xs cs → cs = xs.map fun b => .int .u8 (b.toNat : Int)
  | [], cs, h => by simp only [rdL] at h; simp [h]
  | x :: xs, cs, h => by
    obtain ⟨c1, c2, rfl, h1, h2⟩ := h
    simp only [rd] at h1
    rw [h1, bytes_rd xs c2 h2]; rfl

theorem b2s_run {P : Program} {S D e : TypeId} (hs : P.underlying S = some (.slice e)) (he : P.underlying e = some (.int .u8)) (hd : P.underlying D = some .string) {w : World} {F : Nat → Prop} {eb : Nat} {xs : List UInt8} {v : Value}
    (h : slr w (rd w F .byte) eb (Ty.size .byte) xs v) : (convert S D v).run P w = .ok (.string ⟨xs.toArray⟩) w := by
  rcases h with ⟨rfl, A, c, rfl, _, _⟩ | ⟨b, off, cap, cur, T, fr, cs, rfl, _, hb, h1, h2, h3, h4, h5⟩
  · cases A with
    | none => rw [run_convert_bytes_nil w S e hs he 0 c D hd]; rfl
    | some ad =>
      rw [run_convert_bytes_string w S D e _ _ _ hs he hd]
      simp [Conv.bytesToString, loadCells, loadCellsFrom]
      rfl
  · have hcs := bytes_rd xs cs h5
    rw [run_convert_bytes_arg w S e hs he b off xs.length cap (xs.map fun x => (x.toNat : Int)) (by simp) ?_ D hd]
    · congr 2
      simp [strOfNums, Function.comp_def]
    · intro i hi
      have h6 : (cur.toList.drop off)[i]? = some (.int .u8 ((xs[i]'hi).toNat : Int)) := by
        have h7 := congrArg (fun l => l[i]?) h4
        simp only [Ty.size, Nat.mul_one, List.getElem?_take, if_pos hi] at h7
        rw [h7, hcs]
        simp [hi]
      rw [List.getElem?_drop] at h6
      simp [World.cell?, hb]
      rw [← Array.getElem?_toList, h6]
      simp [hi]

theorem q_b2s (h : HS s.hp E) {y : Opd} (hok : okQ P o.op (.b2s y) = true) (hf : Fr E s.fr a) (he : ev (.b2s y) s = some q) : Comes1 P o a E q := by
  cases ho : o.op <;> simp only [okQ, ho] at hok <;> first | cases hok | skip
  rename_i S D x
  simp only [Bool.and_eq_true] at hok
  obtain ⟨⟨h1, h2⟩, h3⟩ := hok
  have g := get_sound h1 hf
  have hd := okKind_i h2
  split at h3
  · rename_i e hs
    split at h3
    · rename_i hu
      simp only [ev] at he
      split at he
      · rename_i hy
        cases he
        rw [hy] at g
        simp only [den] at g
        refine ⟨trivial, .string ByteArray.empty, ?_, by simp only [den]; exact ⟨trivial, by simp⟩⟩
        simp [execOp, ho, g, run_convert_bytes_nil E.w S e hs hu 0 0 D hd]
      · split at he
        · rename_i p eb xs hC
          cases he
          have hc := cont_sound h g hC
          obtain ⟨A, c, hv, h3, h4⟩ := slr_val hc
          refine ⟨trivial, .string ⟨(xs : List UInt8).toArray⟩, ?_, ?_⟩
          · simp [execOp, ho, b2s_run hs hu hd hc]
          · simp only [den]; exact ⟨trivial, by simpa [ByteArray.size] using h3⟩
        · cases he
    · cases h3
  · cases h3

/-- The value of a key. -/
def keyV : (t : Ty) → t.den → Value
  | .int k, n => .int k n
  | .bool, b => .bool b
  | .str, s => .string s
  | _, _ => undef

structure KeyTy (P : Program) (K : TypeId) (t : Ty) (d : TypeDesc) : Prop where
  u : P.underlying K = some d
  rd : ∀ w F (x : t.den) (v : Value), rd w F t x [v] → v = keyV t x
  isKey : ∀ w F (x : t.den) (v : Value), Go.V.rd w F t x [v] → MapKept.IsKey d v
  beq : ∀ x y : t.den, t.beq x y = true ↔ x = y
  inj : ∀ x y : t.den, keyV t x = keyV t y → x = y
  keyOf : ∀ (E : En) (s : SV) (x : t.den) (v : Value), t.keyOf s = some x → den E s v → ∀ w F, Go.V.rd w F t x [v]

theorem okKey_sound {P : Program} {K : TypeId} {t : Ty} (h : okKey P K t = true) : ∃ d, KeyTy P K t d := by
  unfold okKey at h
  split at h
  · rename_i k hu
    have := of_decide_eq_true h
    subst this
    refine ⟨_, hu, ?_, ?_, ?_, ?_, ?_⟩
    · intro w F x v hx; simp only [Go.V.rd] at hx; simpa [keyV] using hx.1
    · intro w F x v hx; simp only [Go.V.rd] at hx; have : v = .int k x := by simpa using hx.1
      subst this; simp [MapKept.IsKey]
    · intro x y; simp [Ty.beq]
    · intro x y hxy; simpa [keyV] using hxy
    · intro E s x v hk hv w F
      cases s <;> simp only [Ty.keyOf] at hk <;> try cases hk
      split at hk <;> cases hk
      rename_i hkk; subst hkk
      simp only [den] at hv
      simp only [Go.V.rd]; exact ⟨by rw [hv.1], hv.2⟩
  · rename_i hu
    have := of_decide_eq_true h
    subst this
    refine ⟨_, hu, ?_, ?_, ?_, ?_, ?_⟩
    · intro w F x v hx; simp only [Go.V.rd] at hx; simpa [keyV] using hx.1
    · intro w F x v hx; simp only [Go.V.rd] at hx; have : v = .string x := by simpa using hx.1
      subst this; simp [MapKept.IsKey]
    · intro x y; simp [Ty.beq]
    · intro x y hxy; simpa [keyV] using hxy
    · intro E s x v hk hv w F
      cases s <;> simp only [Ty.keyOf] at hk <;> try cases hk
      simp only [den] at hv
      simp only [Go.V.rd]; exact ⟨by rw [hv.1], hv.2⟩
  · rename_i hu
    have := of_decide_eq_true h
    subst this
    refine ⟨_, hu, ?_, ?_, ?_, ?_, ?_⟩
    · intro w F x v hx; simp only [Go.V.rd] at hx; simpa [keyV] using hx
    · intro w F x v hx; simp only [Go.V.rd] at hx; have : v = .bool x := by simpa using hx
      subst this; simp [MapKept.IsKey]
    · intro x y; simp [Ty.beq]
    · intro x y hxy; simpa [keyV] using hxy
    · intro E s x v hk hv w F
      cases s <;> simp only [Ty.keyOf] at hk <;> try cases hk
      simp only [den] at hv
      simp only [Go.V.rd]; rw [hv]
  · cases h

theorem rdM_length {w : World} {F : Nat → Prop} {va : Bool} {kt vt : Ty} : ∀ (m : List (kt.den × vt.den)) (es : List MapEntry), rdM w F va kt vt m es → es.length = m.length
  | [], es, h => by simp only [rdM] at h; simp [h]
  | x :: m, es, h => by obtain ⟨e, r, rfl, _, _, h3⟩ := h; simp [rdM_length m r h3]

theorem rdM_get {w : World} {F : Nat → Prop} {va : Bool} {kt vt : Ty} : ∀ (m : List (kt.den × vt.den)) (es : List MapEntry) (j : Nat) (e : MapEntry), rdM w F va kt vt m es → es[j]? = some e →
    ∃ x, m[j]? = some x ∧ rd w F kt x.1 [e.key] ∧ rdV w F va vt x.2 e.val
  | [], es, j, e, h, hj => by simp only [rdM] at h; subst h; simp at hj
  | x :: m, es, j, e, h, hj => by
    obtain ⟨e', r, rfl, h1, h2, h3⟩ := h
    cases j with
    | zero => simp at hj; subst hj; exact ⟨x, rfl, h1, h2⟩
    | succ j => simpa using rdM_get m r j e h3 (by simpa using hj)

theorem rdM_mem {w : World} {F : Nat → Prop} {va : Bool} {kt vt : Ty} : ∀ (m : List (kt.den × vt.den)) (es : List MapEntry) (x : kt.den × vt.den), rdM w F va kt vt m es → x ∈ m → ∃ e ∈ es, rd w F kt x.1 [e.key]
  | [], es, x, h, hj => by cases hj
  | y :: m, es, x, h, hj => by
    obtain ⟨e', r, rfl, h1, h2, h3⟩ := h
    rcases List.mem_cons.1 hj with rfl | hj
    · exact ⟨e', by simp, h1⟩
    · obtain ⟨e, he, h4⟩ := rdM_mem m r x h3 hj
      exact ⟨e, List.mem_cons_of_mem _ he, h4⟩

theorem rdM_mem' {w : World} {F : Nat → Prop} {va : Bool} {kt vt : Ty} : ∀ (m : List (kt.den × vt.den)) (es : List MapEntry) (e : MapEntry), rdM w F va kt vt m es → e ∈ es → ∃ x ∈ m, rd w F kt x.1 [e.key]
  | [], es, x, h, hj => by simp only [rdM] at h; subst h; cases hj
  | y :: m, es, x, h, hj => by
    obtain ⟨e', r, rfl, h1, h2, h3⟩ := h
    rcases List.mem_cons.1 hj with rfl | hj
    · exact ⟨y, by simp, h1⟩
    · obtain ⟨e, he, h4⟩ := rdM_mem' m r x h3 hj
      exact ⟨e, List.mem_cons_of_mem _ he, h4⟩

/-- WHAT THE MODEL's SEARCH FINDS. -/
theorem find_spec {P : Program} {K : TypeId} {va : Bool} {kt vt : Ty} {d : TypeDesc} (hk : KeyTy P K kt d) {w : World} {F : Nat → Prop} {m : List (kt.den × vt.den)} {es : List MapEntry} (hm : rdM w F va kt vt m es) (hnd : (m.map Prod.fst).Nodup)
    {key : kt.den} {kv : Value} (hkv : rd w F kt key [kv]) :
    (Instr.findNow d kv es 0 = some none ∧ lookM kt vt m key = none ∧ (∀ x ∈ m, x.1 ≠ key)) ∨
    ∃ j e x, Instr.findNow d kv es 0 = some (some (j, e.val)) ∧ es[j]? = some e ∧ e.key = kv ∧ m[j]? = some x ∧ x.1 = key ∧ rdV w F va vt x.2 e.val ∧ lookM kt vt m key = some x.2 := by
  have hkeys : ∀ x ∈ es, MapKept.IsKey d x.key := fun e he => by
    obtain ⟨x, _, h⟩ := rdM_mem' m es e hm he
    exact hk.isKey _ _ _ _ h
  rcases MapKept.findNow_spec (hk.isKey _ _ _ _ hkv) es 0 hkeys with ⟨h1, h2⟩ | ⟨j, e, h1, h2, h3⟩
  · have hne : ∀ x ∈ m, x.1 ≠ key := fun x hx he => by
      obtain ⟨e, hem, h4⟩ := rdM_mem m es x hm hx
      refine h2 e hem ?_
      rw [hk.rd _ _ _ _ h4, hk.rd _ _ _ _ hkv, he]
    refine .inl ⟨h1, ?_, hne⟩
    unfold lookM
    rw [List.find?_eq_none.2 (fun x hx => by
      intro hb
      exact hne x hx ((hk.beq _ _).1 hb))]
    rfl
  · obtain ⟨x, h4, h5, h6⟩ := rdM_get m es j e hm h2
    have hx : x.1 = key := hk.inj _ _ (by rw [← hk.rd _ _ _ _ h5, ← hk.rd _ _ _ _ hkv, h3])
    refine .inr ⟨j, e, x, by simpa using h1, h2, h3, h4, hx, h6, ?_⟩
    unfold lookM
    cases hf : m.find? (fun e => kt.beq e.1 key) with
    | none =>
      have := List.find?_eq_none.1 hf x (List.mem_of_getElem? h4)
      rw [hx] at this
      exact absurd ((hk.beq key key).2 rfl) (by simpa using this)
    | some y =>
      have hy : y.1 = key := (hk.beq _ _).1 (by simpa using List.find?_some hf)
      have hym := List.mem_of_find?_eq_some hf
      obtain ⟨i, hi⟩ := List.getElem?_of_mem hym
      have e1 : (m.map Prod.fst)[i]? = some key := by rw [List.getElem?_map, hi]; simp [hy]
      have e2 : (m.map Prod.fst)[j]? = some key := by rw [List.getElem?_map, h4]; simp [hx]
      have hij : i = j := by
        obtain ⟨hi', hi2⟩ := List.getElem?_eq_some_iff.1 e1
        obtain ⟨hj', hj2⟩ := List.getElem?_eq_some_iff.1 e2
        exact (List.getElem_inj hnd).1 (hi2.trans hj2.symm)
      subst hij
      rw [h4] at hi
      cases hi
      rfl

theorem toV_sound {E : En} {va : Bool} {t : Ty} {x : t.den} {v : Value} {y : SV} (h : rdV E.w E.Fz va t x v) (hy : toV va true t x = some y) : den E y v := by
  cases va with
  | true =>
    simp only [toV] at hy
    cases hy
    obtain ⟨cs, rfl, hr⟩ := h
    simp only [den]
    exact ⟨cs, rfl, denC_sv true t x _ (rd_mono (fun b hb => .inl hb) (fun _ _ => rfl) t x _ hr)⟩
  | false =>
    simp only [toV] at hy
    split at hy
    · rename_i z hz
      cases hy
      have := denC_sv (E := E) true t x _ (rd_mono (fun b hb => .inl hb) (fun _ _ => rfl) t x _ h)
      rw [hz] at this
      by_cases ha : y.isArr = true
      · cases y <;> simp only [SV.isArr, Bool.false_eq_true] at ha
        -- no plain value's cell is an array
        exfalso
        have noArr : ∀ (p : Bool) (t : Ty) (x : t.den) (z : SV), z ∈ t.sv p x → z.isArr = false := by
          intro p t
          induction t with
          | pair a b iha ihb =>
            intro x z hz
            simp only [Ty.sv, List.mem_append] at hz
            exact hz.elim (iha _ _) (ihb _ _)
          | unit => intro x z hz; simp [Ty.sv] at hz
          | _ => intro x z hz; simp only [Ty.sv, List.mem_singleton] at hz; subst hz; rfl
        have := noArr true t x _ (by rw [hz]; exact List.mem_singleton.2 rfl)
        simp [SV.isArr] at this
      · rw [denC_cons (by simpa using ha)] at this
        obtain ⟨v', c2, h1, h2, h3⟩ := this
        injection h1 with h1 h4
        subst h1
        exact h2
    · cases hy

theorem okZero_sound {P : Program} {T : TypeId} {va : Bool} {t : Ty} (h : okZero P T va t = true) {w : World} {F : Nat → Prop} : ∃ v, (∀ w, (zeroValue T).run P w = .ok v w) ∧ rdV w F va t t.dflt v := by
  unfold okZero at h
  have zr : ∀ v, zeroOf P T = some v → ∀ w, (zeroValue T).run P w = .ok v w := by
    intro v hv w
    unfold zeroOf at hv
    cases hi : P.info? T with
    | none => rw [hi] at hv; cases hv
    | some i => rw [hi] at hv; simp at hv; simp [zeroValue, typeInfo, hi, hv]
  split at h
  · rename_i cs hz
    simp only [Bool.and_eq_true] at h
    obtain ⟨h1, h2⟩ := h
    subst h1
    refine ⟨_, zr _ hz, cs, rfl, ?_⟩
    split at h2
    · rename_i hc
      obtain ⟨c, h3, h4⟩ := cstRd_sound (w := w) (F := F) t _ _ _ hc
      rw [List.append_nil] at h3
      rw [h3]; exact h4
    · cases h2
  · rename_i v hnot hz
    simp only [Bool.and_eq_true, Bool.not_eq_true'] at h
    obtain ⟨h1, h2⟩ := h
    subst h1
    refine ⟨_, zr _ hz, ?_⟩
    split at h2
    · rename_i hc
      obtain ⟨c, h3, h4⟩ := cstRd_sound (w := w) (F := F) t _ _ _ hc
      rw [List.append_nil] at h3
      simp only [rdV]
      rw [h3]; exact h4
    · cases h2
  · cases h

theorem q_lk (h : HS s.hp E) {va ok : Bool} {kt vt : Ty} {y k : Opd} (hok : okQ P o.op (.lk va kt vt ok y k) = true) (hf : Fr E s.fr a) (he : ev (.lk va kt vt ok y k) s = some q) : Comes1 P o a E q := by
  cases ho : o.op <;> simp only [okQ, ho] at hok <;> first | cases hok | skip
  rename_i T x i c
  simp only [Bool.and_eq_true, beq_iff_eq] at hok
  obtain ⟨⟨⟨h1, h2⟩, rfl⟩, h3⟩ := hok
  have g := get_sound h1 hf
  have g2 := get_sound h2 hf
  split at h3
  · rename_i K V hu
    simp only [Bool.and_eq_true] at h3
    obtain ⟨h3, h4⟩ := h3
    obtain ⟨d, hk⟩ := okKey_sound h3
    obtain ⟨z, hz, hzr⟩ := okZero_sound (w := E.w) (F := E.Fz) h4
    simp only [ev] at he
    split at he
    · rename_i j hy
      rw [hy] at g
      simp only [den] at g
      obtain ⟨_, b, hb, hv⟩ := g
      split at he
      · rename_i va' kt' vt' m hj
        split at he
        · rename_i hty
          obtain ⟨rfl, rfl, rfl⟩ := hty
          split at he
          · rename_i key hkey
            split at he
            · rename_i y' hy'
              cases he
              obtain ⟨b', es, clk, hb', hh, hm⟩ := h.ok j _ hj
              rw [hb] at hb'
              cases hb'
              have hkv := hk.keyOf E _ _ _ hkey g2 E.w E.Fz
              have hck := MapKept.run_checkKey (w := E.w) hk.u (hk.isKey _ _ _ _ hkv) es.isEmpty 9999
              have hgo := MapKept.run_getObj_map (P := P) hh
              rcases find_spec hk hm.rd hm.nodup hkv with ⟨f1, f2, _⟩ | ⟨j', e, x', f1, f2, f3, f4, f5, f6, f7⟩
              · have hfk := MapKept.run_findKey (w := E.w) hk.u f1
                rw [f2] at hy'
                refine ⟨trivial, if c then .tuple #[z, .bool false] else z, ?_, ?_⟩
                · simp [execOp, ho, hv, Instr.lookup, run_underlying hu, hgo, hck, hfk, hz]
                · rw [f2]
                  have := toV_sound hzr hy'
                  cases c
                  · exact this
                  · simp only [if_true, den, denL, Option.isSome_none]
                    exact ⟨_, rfl, _, _, rfl, this, _, _, rfl, rfl, rfl⟩
              · have hfk := MapKept.run_findKey (w := E.w) hk.u f1
                rw [f7] at hy'
                refine ⟨trivial, if c then .tuple #[e.val, .bool true] else e.val, ?_, ?_⟩
                · simp [execOp, ho, hv, Instr.lookup, run_underlying hu, hgo, hck, hfk]
                · rw [f7]
                  have := toV_sound f6 hy'
                  cases c
                  · exact this
                  · simp only [if_true, den, denL, Option.isSome_some]
                    exact ⟨_, rfl, _, _, rfl, this, _, _, rfl, rfl, rfl⟩
            · cases he
          · cases he
        · cases he
      · cases he
    · cases he
  · cases h3

end quiet
end Go.V
