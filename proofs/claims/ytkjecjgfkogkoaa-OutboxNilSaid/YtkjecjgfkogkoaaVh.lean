/- The quiet operations, one by one. -/
import Derived.Test.YtkjecjgfkogkoaaVg
namespace Go.V
set_option linter.unusedSimpArgs false
set_option linter.unnecessarySimpa false
set_option linter.unusedVariables false

section quiet
variable {P : Program} {o : Oper} {s : SS} {E : En} {a : Act} {q : QR}

theorem q_nck {y : Opd} (hok : okQ P o.op (.nck y) = true) (hf : Fr E s.fr a) (he : ev (.nck y) s = some q) : Comes1 P o a E q := by
  cases ho : o.op <;> simp only [okQ, ho] at hok <;> first | cases hok | skip
  rename_i x
  have g := get_sound hok hf
  simp only [ev] at he
  split at he
  · rename_i i off hy
    cases he; rw [hy] at g; refine ⟨trivial, a.eval x, ?_, g⟩
    simp only [den] at g; obtain ⟨_, b, _, hv⟩ := g; simp [execOp, ho, hv]
  · rename_i i n sz off hy
    cases he; rw [hy] at g; refine ⟨trivial, a.eval x, ?_, g⟩
    simp only [den] at g; obtain ⟨_, b, _, _, _, _, hv⟩ := g; simp [execOp, ho, hv]
  · rename_i p eb t xs n off hy
    cases he; rw [hy] at g; refine ⟨trivial, a.eval x, ?_, g⟩
    simp only [den] at g; obtain ⟨_, b, _, _, _, _, _, hv⟩ := g; simp [execOp, ho, hv]
  · rename_i f caps hy
    cases he; rw [hy] at g; refine ⟨trivial, a.eval x, ?_, g⟩
    simp only [den] at g; obtain ⟨cs, hv, _⟩ := g; simp [execOp, ho, hv]
  · cases he

theorem isAgg_run {P : Program} {T : TypeId} {b : Bool} {w : World} (h : agOf P T = some b) : (isAgg T).run P w = .ok b w := by
  unfold agOf at h
  split at h <;> first | cases h | skip
  all_goals simp_all [isAgg, run_underlying]

theorem szOf_run {P : Program} {T : TypeId} {n : Nat} {w : World} (h : szOf P T = some n) : (sizeOf T).run P w = .ok n w := by
  unfold szOf at h
  cases hi : P.info? T with
  | none => rw [hi] at h; cases h
  | some i => rw [hi] at h; cases h; simp [sizeOf, typeInfo, hi]

theorem fieldOf_run {P : Program} {T f : Nat} {fd : Field} (h : fieldOf P T f = some fd) : ∃ fs, P.underlying T = some (.struct fs) ∧ fs[f]? = some fd := by
  unfold fieldOf at h
  split at h
  · rename_i fs hu; exact ⟨fs, hu, h⟩
  · cases h

theorem q_fld {off : Nat} {n : Option Nat} {y : Opd} (hok : okQ P o.op (.fld off n y) = true) (hf : Fr E s.fr a) (he : ev (.fld off n y) s = some q) : Comes1 P o a E q := by
  cases ho : o.op <;> simp only [okQ, ho] at hok <;> first | cases hok | skip
  rename_i T x f
  simp only [Bool.and_eq_true] at hok
  obtain ⟨h1, h2⟩ := hok
  have g := get_sound h1 hf
  split at h2
  · rename_i fd hfd
    obtain ⟨fs, hu, hfs⟩ := fieldOf_run hfd
    simp only [Bool.and_eq_true, beq_iff_eq] at h2
    obtain ⟨h2, h3⟩ := h2
    subst h2
    simp only [ev] at he
    split at he
    · rename_i l hy
      rw [hy] at g
      simp only [den] at g
      obtain ⟨cs, hv, hc⟩ := g
      split at he
      · cases he
      · rename_i r hd
        obtain ⟨h4, h5⟩ := denC_drop _ _ _ _ hc hd
        cases n with
        | none =>
          simp only at he h3
          cases hh : headC r with
          | none => rw [hh] at he; cases he
          | some y' =>
            rw [hh] at he; cases he
            obtain ⟨v, c2, h6, h7⟩ := denC_head h4 hh
            refine ⟨trivial, v, ?_, h7⟩
            have h8 : cs[fd.offset]? = some v := by
              rw [← Array.getElem?_toList]
              have := congrArg (fun l => l[0]?) h6
              simpa using this
            simp [execOp, ho, Instr.field, hv, run_underlying hu, hfs, asAgg, part, isAgg_run (beq_iff_eq.1 h3), h8]
        | some k =>
          simp only [Bool.and_eq_true, beq_iff_eq] at he h3
          cases hh : takeC r k with
          | none => rw [hh] at he; cases he
          | some l' =>
            rw [hh] at he; cases he
            obtain ⟨h6, h7⟩ := denC_take _ _ _ _ h4 hh
            refine ⟨trivial, .agg (cs.extract fd.offset (fd.offset + k)), ?_, ?_⟩
            · simp [execOp, ho, Instr.field, hv, run_underlying hu, hfs, asAgg, part, isAgg_run h3.1, szOf_run h3.2]
            · simp only [den]
              refine ⟨_, rfl, ?_⟩
              rw [Array.toList_extract, List.extract_eq_take_drop]
              simpa using h6
    · cases he
  · cases h2

theorem q_fa {off : Nat} {y : Opd} (hok : okQ P o.op (.fa off y) = true) (hf : Fr E s.fr a) (he : ev (.fa off y) s = some q) : Comes1 P o a E q := by
  cases ho : o.op <;> simp only [okQ, ho] at hok <;> first | cases hok | skip
  rename_i T x f
  simp only [Bool.and_eq_true] at hok
  obtain ⟨h1, h2⟩ := hok
  have g := get_sound h1 hf
  split at h2
  · rename_i fd hfd
    obtain ⟨fs, hu, hfs⟩ := fieldOf_run hfd
    simp only [Bool.and_eq_true, beq_iff_eq] at h2
    obtain ⟨h2, h3⟩ := h2
    subst h2
    cases hsz : szOf P fd.type with
    | none => rw [hsz] at h3; cases h3
    | some n =>
      rw [hsz] at h3
      simp only [bne_iff_ne, ne_eq] at h3
      have run : ∀ b o', a.eval x = .pointer (some ⟨b, o', none⟩) → (execOp a.eval o).run P E.w = .ok (.value (.pointer (some ⟨b, o' + fd.offset, none⟩))) E.w := by
        intro b o' hv
        have hadd : (⟨b, o', none⟩ : Addr).add fd.offset = ⟨b, o' + fd.offset, none⟩ := by unfold Addr.add; split <;> simp_all
        simp [execOp, ho, Instr.fieldAt, hv, run_underlying hu, hfs, Instr.sureAddr, fieldPlace, szOf_run hsz, h3, hadd]
      simp only [ev] at he
      split at he
      · rename_i i o' hy
        cases he; rw [hy] at g; simp only [den] at g
        obtain ⟨hi, b, hb, hv⟩ := g
        exact ⟨trivial, _, run _ _ hv, by simp only [den]; exact ⟨hi, b, hb, rfl⟩⟩
      · rename_i i n' sz o' hy
        cases he; rw [hy] at g; simp only [den] at g
        obtain ⟨hi, b, o2, l, c, hb, hv⟩ := g
        exact ⟨trivial, _, run _ _ hv, by simp only [den]; exact ⟨hi, b, o2, l, c, hb, by rw [Nat.add_assoc, Nat.add_assoc]⟩⟩
      · rename_i p eb t xs n' o' hy
        cases he; rw [hy] at g; simp only [den] at g
        obtain ⟨vs, b, o2, l, c, hs, hb, hv⟩ := g
        exact ⟨trivial, _, run _ _ hv, by simp only [den]; exact ⟨vs, b, o2, l, c, hs, hb, by rw [Nat.add_assoc, Nat.add_assoc]⟩⟩
      · cases he
  · cases h2

theorem idx_run {P : Program} {T e sz : Nat} {w : World} (hu : P.underlying T = some (.slice e)) (hs : szOf P e = some sz) (b o l c : Nat) (k : IntKind) (n : Int) (h0 : 0 ≤ n) (h1 : n < l) :
    (Instr.indexAt T (.slice (some ⟨b, o, none⟩) l c) (.int k n)).run P w = .ok (.pointer (some ⟨b, o + n.toNat * sz, none⟩)) w := by
  have hadd : (⟨b, o, none⟩ : Addr).add (n.toNat * sz) = ⟨b, o + n.toNat * sz, none⟩ := by unfold Addr.add; split <;> simp_all
  simp [Instr.indexAt, asIntOf, run_underlying hu, h0, h1, szOf_run hs, hadd]

theorem q_ia (h : HS s.hp E) {sz : Nat} {y j : Opd} (hok : okQ P o.op (.ia sz y j) = true) (hf : Fr E s.fr a) (he : ev (.ia sz y j) s = some q) (hn : q.need) : Comes1 P o a E q := by
  cases ho : o.op <;> simp only [okQ, ho] at hok <;> first | cases hok | skip
  rename_i T x i
  simp only [Bool.and_eq_true] at hok
  obtain ⟨⟨h1, h2⟩, h3⟩ := hok
  have g := get_sound h1 hf
  have g2 := get_sound h2 hf
  split at h3
  · rename_i e hu
    have hsz := beq_iff_eq.1 h3
    simp only [ev] at he
    split at he
    · rename_i k n hj
      rw [hj] at g2
      simp only [den] at g2
      obtain ⟨hi, _, _⟩ := g2
      split at he
      · rename_i p eb t xs hy
        rw [hy] at g
        split at he
        · rename_i hszt
          cases he
          simp only at hn
          simp only [den] at g
          rcases g with ⟨hx, _⟩ | ⟨b, off, cap, cur, T', fr, cs, hv, hr⟩
          · rw [hx] at hn; simp at hn; omega
          · refine ⟨trivial, .pointer (some ⟨b, off + n.toNat * sz, none⟩), ?_, ?_⟩
            · simp [execOp, ho, hv, hi, idx_run hu hsz b off xs.length cap k n hn.1 hn.2]
            · simp only [den]
              exact ⟨_, b, off, xs.length, cap, .inr ⟨b, off, cap, cur, T', fr, cs, rfl, hr⟩, rfl, by simp [hszt]⟩
        · cases he
      · rename_i jj hy
        rw [hy] at g
        split at he
        · rename_i mv eb t xs hjj
          cases he
          simp only at hn
          simp only [den] at g
          obtain ⟨hlt, hv, _⟩ := g
          rcases h.ok jj _ hjj with ⟨_, _, rfl⟩ | ⟨b, off, cap, cur, T', fr, cs, hval, hr⟩
          · simp at hn; omega
          · rw [hval] at hv
            refine ⟨trivial, .pointer (some ⟨b, off + n.toNat * sz, none⟩), ?_, ?_⟩
            · simp [execOp, ho, hv, hi, idx_run hu hsz b off xs.length cap k n hn.1 hn.2]
            · simp only [den]
              exact ⟨hlt, b, off, xs.length, cap, hval, by simp⟩
        · cases he
      · rename_i jj lo hi' sz' hy
        rw [hy] at g
        split at he
        · rename_i mv eb t xs hjj
          split at he
          · rename_i hszz
            cases he
            simp only at hn
            simp only [den] at g
            obtain ⟨hlt, hle, g⟩ := g
            rcases g with ⟨rfl, rfl, _⟩ | ⟨b, o', l, c, hval, hhi, ad, hv, had⟩
            · simp at hn; omega
            · rcases h.ok jj _ hjj with ⟨_, _, hval'⟩ | ⟨b', off, cap, cur, T', fr, cs, hval', hb', hh, hz, hle', hr⟩
              · exfalso
                have hx0 : xs.length = 0 := by rw [hval']; rfl
                omega
              · rw [hval] at hval'
                injection hval' with e1 e2 e3
                subst e2; subst e3
                have hc : c ≠ lo := by omega
                rw [had hc] at hv
                refine ⟨trivial, .pointer (some ⟨b, o' + lo * sz' + n.toNat * sz, none⟩), ?_, ?_⟩
                · simp [execOp, ho, hv, hi, idx_run hu hsz b (o' + lo * sz') (hi' - lo) (c - lo) k n hn.1 (by omega)]
                · simp only [den]
                  refine ⟨hlt, b, o', xs.length, c, hval, ?_⟩
                  rw [← hszz.1, Nat.add_mul]
                  simp [Nat.add_assoc]
          · cases he
        · cases he
      · cases he
    · cases he
  · cases h3

theorem q_iaA {len sz : Nat} {y j : Opd} (hok : okQ P o.op (.iaA len sz y j) = true) (hf : Fr E s.fr a) (he : ev (.iaA len sz y j) s = some q) (hn : q.need) : Comes1 P o a E q := by
  cases ho : o.op <;> simp only [okQ, ho] at hok <;> first | cases hok | skip
  rename_i T x i
  simp only [Bool.and_eq_true] at hok
  obtain ⟨⟨h1, h2⟩, h3⟩ := hok
  have g := get_sound h1 hf
  have g2 := get_sound h2 hf
  split at h3
  · rename_i n' e hu
    simp only [Bool.and_eq_true, beq_iff_eq] at h3
    obtain ⟨rfl, hsz⟩ := h3
    simp only [ev] at he
    split at he
    · rename_i k n hj
      rw [hj] at g2
      simp only [den] at g2
      obtain ⟨hi, _, _⟩ := g2
      split at he
      · rename_i jj off hy
        cases he
        rw [hy] at g
        simp only [den] at g
        obtain ⟨hlt, b, hb, hv⟩ := g
        simp only at hn
        have hadd : (⟨b, off, none⟩ : Addr).add (n.toNat * sz) = ⟨b, off + n.toNat * sz, none⟩ := by unfold Addr.add; split <;> simp_all
        refine ⟨trivial, .pointer (some ⟨b, off + n.toNat * sz, none⟩), ?_, ?_⟩
        · simp [execOp, ho, hv, hi, Instr.indexAt, asIntOf, run_underlying hu, Instr.sureAddr, hn.1, hn.2, szOf_run hsz, hadd]
        · simp only [den]; exact ⟨hlt, b, hb, rfl⟩
      · cases he
    · cases he
  · cases h3

theorem okKind_i {P : Program} {T : TypeId} (h : okKind P T .i = true) : P.underlying T = some .string := by
  simp only [okKind] at h; split at h <;> first | assumption | cases h

theorem q_ixS {y j : Opd} (hok : okQ P o.op (.ixS y j) = true) (hf : Fr E s.fr a) (he : ev (.ixS y j) s = some q) (hn : q.need) : Comes1 P o a E q := by
  cases ho : o.op <;> simp only [okQ, ho] at hok <;> first | cases hok | skip
  rename_i T x i
  simp only [Bool.and_eq_true] at hok
  obtain ⟨⟨h1, h2⟩, h3⟩ := hok
  have g := get_sound h1 hf
  have g2 := get_sound h2 hf
  have hu := okKind_i h3
  simp only [ev] at he
  split at he
  · rename_i b hy
    rw [hy] at g
    split at he
    · rename_i k n hj
      cases he
      rw [hj] at g2
      simp only [den] at g g2
      simp only at hn
      have hlt : n.toNat < b.size := by omega
      have hget : b[n.toNat]? = some (b.data.toList.getD n.toNat 0) := by
        have : n.toNat < b.data.toList.length := by simpa using hlt
        rw [List.getD_eq_getElem?_getD, List.getElem?_eq_getElem this]
        simp [getElem?_pos, hlt]; rfl
      refine ⟨trivial, .int .u8 ((b.data.toList.getD n.toNat 0).toNat : Int), ?_, ?_⟩
      · simp [execOp, ho, g.1, g2.1, Instr.index, asIntOf, run_underlying hu, hn.1, hget]
      · simp only [den]
        exact ⟨trivial, u8_in _⟩
    · cases he
  · cases he

theorem q_ld (h : HS s.hp E) {y : Opd} (hok : okQ P o.op (.ld y) = true) (hf : Fr E s.fr a) (he : ev (.ld y) s = some q) (hn : q.need) : Comes1 P o a E q := by
  cases ho : o.op <;> simp only [okQ, ho] at hok <;> first | cases hok | skip
  rename_i T x
  simp only [Bool.and_eq_true, beq_iff_eq] at hok
  obtain ⟨h1, h2⟩ := hok
  have g := get_sound h1 hf
  simp only [ev] at he
  split at he
  · cases he
  · rename_i need l hs
    cases hh : headC l with
    | none => rw [hh] at he; cases he
    | some y' =>
      rw [hh] at he; cases he
      obtain ⟨b, off, cur, T', fr, cs, r, hv, hb, hd, hc⟩ := seen_sound h g hs hn
      obtain ⟨v, c2, rfl, h4⟩ := denC_head hc hh
      have hcell : E.w.cell? ⟨b, off, none⟩ = some v := by
        have := congrArg (fun l => l[0]?) hd
        simp [World.cell?, hb]
        simpa using this
      exact ⟨trivial, v, by simp [execOp, ho, hv, Instr.loadAt, Instr.sureAddr, loadVar, isAgg_run h2, hcell], h4⟩

theorem loadCells_run {P : Program} {w : World} {b off : Nat} {cur : Array Value} {T : TypeId} {fr : Nat × Nat} (hb : w.heap[b]? = some (.cells cur T fr)) {cs r : List Value} (hd : cur.toList.drop off = cs ++ r) :
    (loadCells ⟨b, off, none⟩ cs.length).run P w = .ok cs.toArray w := by
  refine run_loadCells_list w ⟨b, off, none⟩ cs (fun j v hj => ?_)
  have hadd : (⟨b, off, none⟩ : Addr).add j = ⟨b, off + j, none⟩ := by unfold Addr.add; split <;> simp_all
  rw [hadd]
  have hlt : j < cs.length := (List.getElem?_eq_some_iff.1 hj).1
  have := congrArg (fun l => l[j]?) hd
  simp only [List.getElem?_drop, List.getElem?_append_left hlt, hj] at this
  simp [World.cell?, hb]
  simpa using this

theorem q_ldA (h : HS s.hp E) {n : Nat} {y : Opd} (hok : okQ P o.op (.ldA n y) = true) (hf : Fr E s.fr a) (he : ev (.ldA n y) s = some q) (hn : q.need) : Comes1 P o a E q := by
  cases ho : o.op <;> simp only [okQ, ho] at hok <;> first | cases hok | skip
  rename_i T x
  simp only [Bool.and_eq_true, beq_iff_eq] at hok
  obtain ⟨⟨h1, h2⟩, h3⟩ := hok
  have g := get_sound h1 hf
  simp only [ev] at he
  split at he
  · cases he
  · rename_i need l hs
    cases hh : takeC l n with
    | none => rw [hh] at he; cases he
    | some l' =>
      rw [hh] at he; cases he
      obtain ⟨b, off, cur, T', fr, cs, r, hv, hb, hd, hc⟩ := seen_sound h g hs hn
      obtain ⟨h4, h5⟩ := denC_take _ _ _ _ hc hh
      have hlen : (cs.take n).length = n := by simp; omega
      have hd' : cur.toList.drop off = cs.take n ++ (cs.drop n ++ r) := by rw [← List.append_assoc, List.take_append_drop]; exact hd
      have hrun := loadCells_run (P := P) hb hd'
      rw [hlen] at hrun
      refine ⟨trivial, .agg (cs.take n).toArray, ?_, ?_⟩
      · simp [execOp, ho, hv, Instr.loadAt, Instr.sureAddr, loadVar, isAgg_run h2, szOf_run h3, hrun]
      · simp only [den]; exact ⟨_, rfl, h4⟩


theorem intCmp_run {P : Program} {w : World} (op : BinOp) (k : IntKind) (x y : Int) (T : TypeId) (h : op = .eql ∨ op = .neq ∨ op = .lss ∨ op = .leq ∨ op = .gtr ∨ op = .geq) :
    (binOp op T (.int k x) (.int k y)).run P w = (Op.intCmp op x y).run P w := by
  rcases h with rfl | rfl | rfl | rfl | rfl | rfl <;> simp [binOp]

theorem k_range (k : IntKind) (n : Int) : inR k (k.wrap n) := by
  cases k <;> simp only [inR, IntKind.wrap, IntKind.min, IntKind.max, IntKind.signed, IntKind.bits] <;> simp <;> (try split) <;> omega

theorem bits_run {P : Program} {w : World} (op : BinOp) (k : IntKind) (x y : Int) (T : TypeId) (h : op = .and ∨ op = .or ∨ op = .xor ∨ op = .andNot) :
    (binOp op T (.int k x) (.int k y)).run P w = .ok (.int k (bitsI op k x y)) w := by
  rcases h with rfl | rfl | rfl | rfl <;> simp [binOp, Op.intBits, bitsI]

theorem tmod_in (k : IntKind) (a b : Int) (ha : inR k a) : inR k (a.tmod b) := by
  have h1 : (a.tmod b).natAbs ≤ a.natAbs := by
    rw [Int.natAbs_tmod]; exact Nat.mod_le _ _
  have h2 : 0 ≤ a → 0 ≤ a.tmod b := fun h => Int.tmod_nonneg b h
  have h3 : k.min ≤ 0 ∧ 0 ≤ k.max := by cases k <;> decide
  obtain ⟨h4, h5⟩ := ha
  have h6 : a ≤ 0 → a.tmod b ≤ 0 := fun h => by
    have := Int.tmod_nonneg b (show 0 ≤ -a by omega)
    rw [Int.neg_tmod] at this; omega
  constructor
  · rcases Int.le_total 0 a with h | h
    · have := h2 h; omega
    · have := h6 h; omega
  · rcases Int.le_total 0 a with h | h
    · have := h2 h; omega
    · have := h6 h; omega

theorem fdiv_in (k : IntKind) (a : Int) (n : Nat) (ha : inR k a) : inR k (a.fdiv (2 ^ n)) := by
  have h3 : k.min ≤ 0 ∧ 0 ≤ k.max := by cases k <;> decide
  obtain ⟨h4, h5⟩ := ha
  have hp : (0 : Int) < 2 ^ n := Int.pow_pos (by omega)
  rw [Int.fdiv_eq_ediv_of_nonneg _ (Int.le_of_lt hp)]
  constructor
  · rcases Int.le_total 0 a with h | h
    · have := Int.ediv_nonneg h (Int.le_of_lt hp); omega
    · have : k.min ≤ a / 2 ^ n := by
        refine Int.le_trans h4 ?_
        refine (Int.le_ediv_iff_mul_le hp).2 ?_
        have h1 : (1 : Int) ≤ 2 ^ n := hp
        have h2 : a * 2 ^ n ≤ a * 1 := Int.mul_le_mul_of_nonpos_left h h1
        omega
      exact this
  · rcases Int.le_total 0 a with h | h
    · exact Int.le_trans (Int.ediv_le_self _ h) h5
    · have : a / 2 ^ n < 1 := (Int.ediv_lt_iff_lt_mul hp).2 (by omega)
      omega

theorem eqGuard_int {P : Program} {w : World} (op : BinOp) (T : TypeId) (x y : Operand) (k k' : IntKind) (a b : Int) : (eqGuard op T x y (.int k a) (.int k' b)).run P w = .ok () w := by
  unfold eqGuard; split <;> simp
theorem eqGuard_str {P : Program} {w : World} (op : BinOp) (T : TypeId) (x y : Operand) (a b : ByteArray) : (eqGuard op T x y (.string a) (.string b)).run P w = .ok () w := by
  unfold eqGuard; split <;> simp

theorem binI_sound {P : Program} {w : World} {op : BinOp} {T : TypeId} {k k' : IntKind} {x y : Int} {q : QR} {E : En} (h : binI op k k' x y = some q) (hx : inR k x) (hy : inR k' y) (hn : q.need) :
    q.hyp ∧ ∃ v, (binOp op T (.int k x) (.int k' y)).run P w = .ok v w ∧ den E q.val v := by
  cases op <;> simp only [binI] at h
  case shl => cases h; exact ⟨⟨hx, hy⟩, .int k (k.wrap (x * 2 ^ (min y.toNat k.bits))), by simp [binOp, Op.shift, show ¬ y < 0 by simpa using hn], by simp only [den]; exact ⟨trivial, k_range _ _⟩⟩
  case shr => cases h; exact ⟨⟨hx, hy⟩, .int k (x.fdiv (2 ^ (min y.toNat k.bits))), by simp [binOp, Op.shift, show ¬ y < 0 by simpa using hn], by simp only [den]; exact ⟨trivial, fdiv_in _ _ _ hx⟩⟩
  all_goals
    split at h <;> try cases h
    rename_i hk
    subst hk
  case add => exact ⟨⟨hx, hy⟩, .int k (k.wrap (x + y)), by simp [binOp, Op.intArith], by simp only [den]; exact ⟨trivial, k_range _ _⟩⟩
  case sub => exact ⟨⟨hx, hy⟩, .int k (k.wrap (x - y)), by simp [binOp, Op.intArith], by simp only [den]; exact ⟨trivial, k_range _ _⟩⟩
  case mul => exact ⟨⟨hx, hy⟩, .int k (k.wrap (x * y)), by simp [binOp, Op.intArith], by simp only [den]; exact ⟨trivial, k_range _ _⟩⟩
  case quo => exact ⟨⟨hx, hy⟩, .int k (k.wrap (x.tdiv y)), by simp [binOp, Op.intDiv, show ¬ y = 0 from hn], by simp only [den]; exact ⟨trivial, k_range _ _⟩⟩
  case rem => exact ⟨⟨hx, hy⟩, .int k (x.tmod y), by simp [binOp, Op.intDiv, show ¬ y = 0 from hn], by simp only [den]; exact ⟨trivial, tmod_in _ _ _ hx⟩⟩
  case and => exact ⟨⟨hx, hy⟩, _, bits_run _ _ _ _ _ (by simp), by simp only [den]; exact ⟨trivial, k_range _ _⟩⟩
  case or => exact ⟨⟨hx, hy⟩, _, bits_run _ _ _ _ _ (by simp), by simp only [den]; exact ⟨trivial, k_range _ _⟩⟩
  case xor => exact ⟨⟨hx, hy⟩, _, bits_run _ _ _ _ _ (by simp), by simp only [den]; exact ⟨trivial, k_range _ _⟩⟩
  case andNot => exact ⟨⟨hx, hy⟩, _, bits_run _ _ _ _ _ (by simp), by simp only [den]; exact ⟨trivial, k_range _ _⟩⟩
  all_goals exact ⟨trivial, _, by rw [intCmp_run _ _ _ _ _ (by simp)]; rfl, by simp only [den] <;> rfl⟩

theorem binS_sound {P : Program} {w : World} {op : BinOp} {T : TypeId} {x y : ByteArray} {q : QR} {E : En} (h : binS op x y = some q) (hn : q.need) :
    q.hyp ∧ ∃ v, (binOp op T (.string x) (.string y)).run P w = .ok v w ∧ den E q.val v := by
  have heq : (x.toList == y.toList) = decide (x = y) := by
    rw [Bool.eq_iff_iff]
    simp only [beq_iff_eq, decide_eq_true_eq]
    rw [ByteArray.toList_eq, ByteArray.toList_eq]
    exact ⟨bytes_ext, fun h => by rw [h]⟩
  have hlt : Op.bytesLess x.toList y.toList = ltS x y := by rw [ByteArray.toList_eq, ByteArray.toList_eq]; rfl
  cases op <;> simp only [binS] at h <;> cases h
  case add =>
    simp only at hn
    have : ¬ IntKind.max .i64 < (x.size : Int) + (y.size : Int) := by
      simp only [maxLen] at hn
      simp [IntKind.max, IntKind.signed, IntKind.bits]; omega
    have hne : ¬ (((x.size + y.size : Nat) : Int) > IntKind.i64.max) := by rw [Int.natCast_add]; exact this
    exact ⟨trivial, .string (x ++ y), by simp only [binOp, Op.stringOp, if_neg hne]; rfl, by simp only [den]; exact ⟨trivial, by rw [ByteArray.size_append]; exact hn⟩⟩
  all_goals exact ⟨trivial, _, by simp only [binOp, Op.stringOp, heq, hlt]; rfl, by simp only [den]⟩

theorem q_bin {op : BinOp} {y z : Opd} (hok : okQ P o.op (.bin op y z) = true) (hf : Fr E s.fr a) (he : ev (.bin op y z) s = some q) (hn : q.need) : Comes1 P o a E q := by
  cases ho : o.op <;> simp only [okQ, ho] at hok <;> first | cases hok | skip
  rename_i op' T x x' _
  simp only [Bool.and_eq_true, decide_eq_true_eq] at hok
  obtain ⟨⟨rfl, h1⟩, h2⟩ := hok
  have g := get_sound h1 hf
  have g2 := get_sound h2 hf
  simp only [ev] at he
  split at he
  · rename_i k n hy
    rw [hy] at g
    split at he
    · rename_i k' n' hz
      rw [hz] at g2
      simp only [den] at g g2
      obtain ⟨h3, v, h4, h5⟩ := binI_sound (P := P) (w := E.w) (T := T) (E := E) he g.2 g2.2 hn
      exact ⟨h3, v, by simp [execOp, ho, g.1, g2.1, eqGuard_int, h4], h5⟩
    · cases he
  · rename_i b hy
    rw [hy] at g
    split at he
    · rename_i b' hz
      rw [hz] at g2
      simp only [den] at g g2
      obtain ⟨h3, v, h4, h5⟩ := binS_sound (P := P) (w := E.w) (T := T) (E := E) he hn
      exact ⟨h3, v, by simp [execOp, ho, g.1, g2.1, eqGuard_str, h4], h5⟩
    · cases he
  · cases he


/-- Of what is neither a number nor a text: '==' is 'equal'. -/
def plainEq : Value → Bool
  | .bool _ | .pointer _ | .slice _ _ _ | .map _ | .func _ _ _ | .nilFunc => true
  | _ => false

theorem eq_run {P : Program} {w : World} {T : TypeId} {x x' : Operand} {v v' : Value} {b : Bool} (ng : Bool) (hv : plainEq v = true) (hv' : plainEq v' = true)
    (h : ∀ d, (Op.equalIn (d + 1) T v v').run P w = .ok b w) :
    (do eqGuard (if ng = true then BinOp.neq else BinOp.eql) T x x' v v'; binOp (if ng = true then BinOp.neq else BinOp.eql) T v v' : Sem Value).run P w = .ok (.bool (bif ng then !b else b)) w := by
  have he : (Op.equal T v v').run P w = .ok b w := h 9999
  have hg : (eqGuard (if ng = true then BinOp.neq else BinOp.eql) T x x' v v').run P w = .ok () w := by
    cases ng <;> cases v <;> simp only [plainEq, Bool.false_eq_true] at hv <;> simp [eqGuard]
  have hb : binOp (if ng = true then BinOp.neq else BinOp.eql) T v v' = (do let r ← Op.equal T v v'; pure (.bool (bif ng then !r else r))) := by
    cases ng <;> cases v <;> simp only [plainEq, Bool.false_eq_true] at hv <;> cases v' <;> simp only [plainEq, Bool.false_eq_true] at hv' <;> rfl
  rw [Sem.run_bind, hg, Result.andThen_ok, hb]
  cases ng <;> simp [he]

theorem eq_comes {ng : Bool} {T : TypeId} {x x' : Operand} {U : TypeId} {v v' : Value} {b : Bool} (ho : o.op = .binOp (if ng = true then BinOp.neq else BinOp.eql) T x x' U) (e1 : a.eval x = v) (e2 : a.eval x' = v')
    (hv : plainEq v = true) (hv' : plainEq v' = true) (h : ∀ d, (Op.equalIn (d + 1) T v v').run P E.w = .ok b E.w) :
    (execOp a.eval o).run P E.w = .ok (.value (.bool (bif ng then !b else b))) E.w := by
  have := eq_run (P := P) (w := E.w) (T := T) (x := x) (x' := x') ng hv hv' h
  simp only [execOp, ho, e1, e2, Sem.run_bind, Sem.run_pure] at this ⊢
  rw [this]; rfl

theorem q_binB {ng : Bool} {y z : Opd} (hok : okQ P o.op (.binB ng y z) = true) (hf : Fr E s.fr a) (he : ev (.binB ng y z) s = some q) : Comes1 P o a E q := by
  cases ho : o.op <;> simp only [okQ, ho] at hok <;> first | cases hok | skip
  rename_i op' T x x' _
  simp only [Bool.and_eq_true, decide_eq_true_eq] at hok
  obtain ⟨⟨⟨rfl, h1⟩, h2⟩, h3⟩ := hok
  have g := get_sound h1 hf
  have g2 := get_sound h2 hf
  split at h3
  · rename_i hu
    simp only [ev] at he
    split at he
    · rename_i b hy
      rw [hy] at g
      split at he
      · rename_i b' hz
        cases he
        rw [hz] at g2
        simp only [den] at g g2
        exact ⟨trivial, _, eq_comes ho g g2 rfl rfl (b := b == b') (fun d => by simp [Op.equalIn, run_underlying hu]), by simp only [den]⟩
      · cases he
    · cases he
  · cases h3

theorem q_eqn {ng : Bool} {k : NK} {y z : Opd} (hok : okQ P o.op (.eqn ng k y z) = true) (hf : Fr E s.fr a) (he : ev (.eqn ng k y z) s = some q) : Comes1 P o a E q := by
  cases ho : o.op <;> simp only [okQ, ho] at hok <;> first | cases hok | skip
  rename_i op' T x x' _
  simp only [Bool.and_eq_true, decide_eq_true_eq] at hok
  obtain ⟨⟨⟨rfl, h1⟩, h2⟩, h3⟩ := hok
  have g := get_sound h1 hf
  have g2 := get_sound h2 hf
  simp only [ev] at he
  split at he <;> try cases he
  all_goals
    rename_i hy hz
    rw [hy] at g; rw [hz] at g2
    simp only [okKind] at h3
    split at h3 <;> try cases h3
    rename_i hu
    simp only [den] at g g2
  · exact ⟨trivial, _, eq_comes ho g g2 rfl rfl (b := true) (fun d => by simp [Op.equalIn, run_underlying hu]), by simp only [den]; cases ng <;> rfl⟩
  · obtain ⟨_, b, _, g2⟩ := g2
    exact ⟨trivial, _, eq_comes ho g g2 rfl rfl (b := false) (fun d => by simp [Op.equalIn, run_underlying hu]), by simp only [den]; cases ng <;> rfl⟩
  · obtain ⟨_, b, _, g⟩ := g
    exact ⟨trivial, _, eq_comes ho g g2 rfl rfl (b := false) (fun d => by simp [Op.equalIn, run_underlying hu]), by simp only [den]; cases ng <;> rfl⟩
  · exact ⟨trivial, _, eq_comes ho g g2 rfl rfl (b := true) (fun d => by simp [Op.equalIn, run_underlying hu]), by simp only [den]; cases ng <;> rfl⟩
  · exact ⟨trivial, _, eq_comes ho g g2 rfl rfl (b := true) (fun d => by simp [Op.equalIn, run_underlying hu]), by simp only [den]; cases ng <;> rfl⟩
  · obtain ⟨_, b, _, g⟩ := g
    exact ⟨trivial, _, eq_comes ho g g2 rfl rfl (b := false) (fun d => by simp [Op.equalIn, run_underlying hu]), by simp only [den]; cases ng <;> rfl⟩
  · exact ⟨trivial, _, eq_comes ho g g2 rfl rfl (b := true) (fun d => by simp [Op.equalIn, run_underlying hu]), by simp only [den]; cases ng <;> rfl⟩
  · obtain ⟨_, g, _⟩ := g
    exact ⟨trivial, _, eq_comes ho g g2 rfl rfl (b := false) (fun d => by simp [Op.equalIn, run_underlying hu]), by simp only [den]; cases ng <;> rfl⟩

theorem q_not {y : Opd} (hok : okQ P o.op (.not y) = true) (hf : Fr E s.fr a) (he : ev (.not y) s = some q) : Comes1 P o a E q := by
  cases ho : o.op <;> simp only [okQ, ho] at hok <;> first | cases hok | skip
  rename_i u T x
  cases u <;> simp only at hok <;> try cases hok
  have g := get_sound hok hf
  simp only [ev] at he
  split at he
  · rename_i b hy
    cases he
    rw [hy] at g
    simp only [den] at g
    exact ⟨trivial, .bool (!b), by simp [execOp, ho, g, Op.unary], by simp only [den]⟩
  · cases he

theorem q_neg {y : Opd} (hok : okQ P o.op (.neg y) = true) (hf : Fr E s.fr a) (he : ev (.neg y) s = some q) : Comes1 P o a E q := by
  cases ho : o.op <;> simp only [okQ, ho] at hok <;> first | cases hok | skip
  rename_i u T x
  cases u <;> simp only at hok <;> try cases hok
  have g := get_sound hok hf
  simp only [ev] at he
  split at he
  · rename_i k n hy
    cases he
    rw [hy] at g
    simp only [den] at g
    exact ⟨g.2, .int k (k.wrap (0 - n)), by simp [execOp, ho, g.1, Op.unary, Op.intArith], by simp only [den]; exact ⟨trivial, k_range _ _⟩⟩
  · cases he

theorem q_cv {k : IntKind} {y : Opd} (hok : okQ P o.op (.cv k y) = true) (hf : Fr E s.fr a) (he : ev (.cv k y) s = some q) : Comes1 P o a E q := by
  cases ho : o.op <;> simp only [okQ, ho] at hok <;> first | cases hok | skip
  rename_i S D x
  simp only [Bool.and_eq_true] at hok
  obtain ⟨⟨h1, h2⟩, h3⟩ := hok
  have g := get_sound h1 hf
  obtain ⟨d, hd⟩ := Option.isSome_iff_exists.1 h2
  split at h3
  · rename_i k' hu
    have hk := of_decide_eq_true h3
    subst hk
    simp only [ev] at he
    split at he
    · rename_i k2 n hy
      cases he
      rw [hy] at g
      simp only [den] at g
      exact ⟨g.2, .int k' (k'.wrap n), by simp [execOp, ho, g.1, convert, run_underlying hd, run_underlying hu, Conv.intToInt], by simp only [den]; exact ⟨trivial, k_range _ _⟩⟩
    · cases he
  · cases h3

theorem q_cvS {y : Opd} (hok : okQ P o.op (.cvS y) = true) (hf : Fr E s.fr a) (he : ev (.cvS y) s = some q) : Comes1 P o a E q := by
  cases ho : o.op <;> simp only [okQ, ho] at hok <;> first | cases hok | skip
  rename_i S D x
  simp only [Bool.and_eq_true] at hok
  obtain ⟨⟨h1, h2⟩, h3⟩ := hok
  have g := get_sound h1 hf
  have hs := okKind_i h2
  have hd := okKind_i h3
  simp only [ev] at he
  split at he
  · rename_i b hy
    cases he
    rw [hy] at g
    simp only [den] at g
    exact ⟨trivial, .string b, by simp [execOp, ho, g.1, convert, run_underlying hd, run_underlying hs], by simp only [den]; exact ⟨trivial, g.2⟩⟩
  · cases he

theorem q_ext {i : Nat} {y : Opd} (hok : okQ P o.op (.ext y i) = true) (hf : Fr E s.fr a) (he : ev (.ext y i) s = some q) : Comes1 P o a E q := by
  have get : ∀ (l : List SV) (vs : List Value) (i : Nat) (x : SV), denL E l vs → l[i]? = some x → ∃ v, vs[i]? = some v ∧ den E x v := by
    intro l
    induction l with
    | nil => intro vs i x h hx; simp at hx
    | cons z r ih =>
      intro vs i x h hx
      simp only [denL] at h
      obtain ⟨v, r', rfl, h1, h2⟩ := h
      cases i with
      | zero => simp at hx; subst hx; exact ⟨v, rfl, h1⟩
      | succ i => simpa using ih r' i x h2 (by simpa using hx)
  cases ho : o.op <;> simp only [okQ, ho] at hok <;> first | cases hok | skip
  rename_i x j
  simp only [Bool.and_eq_true, beq_iff_eq] at hok
  obtain ⟨h1, rfl⟩ := hok
  have g := get_sound h1 hf
  simp only [ev] at he
  split at he
  · rename_i l hy
    rw [hy] at g
    simp only [den] at g
    obtain ⟨vs, hv, hl⟩ := g
    cases hx : l[i]? with
    | none => rw [hx] at he; cases he
    | some x' =>
      rw [hx] at he
      cases he
      obtain ⟨v, h3, h4⟩ := get _ _ _ _ hl hx
      exact ⟨trivial, v, by simp [execOp, ho, hv, Instr.extract]; rw [Array.getElem?_toList] at h3; simp [h3], h4⟩
  · cases he

end quiet
end Go.V
