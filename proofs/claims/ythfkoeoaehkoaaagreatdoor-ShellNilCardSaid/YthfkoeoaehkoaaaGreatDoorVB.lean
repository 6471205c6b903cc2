/- The quiet operations, one by one. -/
import Derived.Test.YthfkoeoaehkoaaaGreatDoorVA
import Derived.ChangeKeysEq
namespace Go.V
set_option linter.unusedSimpArgs false
set_option linter.unnecessarySimpa false
set_option linter.unusedVariables false
section quiet
variable {P : Program} {o : Oper} {s : SS} {E : En} {a : Act} {q : QR}
theorem q_nck {y : Opd} (hok : okQ P o.op (.nck y) = true) (hf : Fr E s.fr a) (he : ev (.nck y) s = some q) : Comes1 P o a E q := by
 cases ho : o.op <;> simp only [okQ, ho] at hok <;> first | cases hok | skip
 rename_i x
 have g := get_sound hok hf
 simp only [ev] at he
 split at he
 ·rename_i i off hy
  cases he; rw [hy] at g; refine ⟨trivial, a.eval x, ?_, g⟩
  simp only [den] at g; obtain ⟨_, b, _, hv⟩ := g; simp [execOp, ho, hv]
 ·rename_i i n sz off hy
  cases he; rw [hy] at g; refine ⟨trivial, a.eval x, ?_, g⟩
  simp only [den] at g; obtain ⟨_, b, _, _, _, _, hv⟩ := g; simp [execOp, ho, hv]
 ·rename_i p eb t xs n off hy
  cases he; rw [hy] at g; refine ⟨trivial, a.eval x, ?_, g⟩
  simp only [den] at g; obtain ⟨_, b, _, _, _, _, _, hv⟩ := g; simp [execOp, ho, hv]
 ·rename_i f caps hy
  cases he; rw [hy] at g; refine ⟨trivial, a.eval x, ?_, g⟩
  simp only [den] at g; obtain ⟨cs, hv, _⟩ := g
  unfold fnV at hv
  split at hv <;> simp [execOp, ho, hv]
 ·rename_i i T hy
  cases he; rw [hy] at g; refine ⟨trivial, a.eval x, ?_, g⟩
  simp only [den] at g; obtain ⟨_, b, _, hv, _⟩ := g; simp [execOp, ho, hv]
 ·cases he
theorem isAgg_run {P : Program} {T : TypeId} {b : Bool} {w : World} (h : agOf P T = some b) : (isAgg T).run P w = .ok b w := by
 unfold agOf at h
 split at h <;> first | cases h | skip
 all_goals simp_all [isAgg, run_underlying]
theorem szOf_run {P : Program} {T : TypeId} {n : Nat} {w : World} (h : szOf P T = some n) : (sizeOf T).run P w = .ok n w := by
 unfold szOf at h
 cases hi : P.info? T with
 | none => rw [hi] at h; cases h
 | some i => rw [hi] at h; cases h; simp [sizeOf, typeInfo, hi]
theorem fieldOf_run {P : Program} {T f : Nat} {fd : Field} (h : fieldOf P T f = some fd) : ∃ fs, P.underlying T = some (.struct fs) ∧ fs[f]? = some fd := by
 unfold fieldOf at h
 split at h
 ·rename_i fs hu; exact ⟨fs, hu, h⟩
 ·cases h
theorem q_fld {off : Nat} {n : Option Nat} {y : Opd} (hok : okQ P o.op (.fld off n y) = true) (hf : Fr E s.fr a) (he : ev (.fld off n y) s = some q) : Comes1 P o a E q := by
 cases ho : o.op <;> simp only [okQ, ho] at hok <;> first | cases hok | skip
 rename_i T x f
 simp only [Bool.and_eq_true] at hok
 obtain ⟨h1, h2⟩ := hok
 have g := get_sound h1 hf
 split at h2
 ·rename_i fd hfd
  obtain ⟨fs, hu, hfs⟩ := fieldOf_run hfd
  simp only [Bool.and_eq_true, beq_iff_eq] at h2
  obtain ⟨h2, h3⟩ := h2
  subst h2
  simp only [ev] at he
  split at he
  ·rename_i l hy
   rw [hy] at g
   simp only [den] at g
   obtain ⟨cs, hv, hc⟩ := g
   split at he
   ·cases he
   ·rename_i r hd
    obtain ⟨h4, h5⟩ := denC_drop _ _ _ _ hc hd
    cases n with
    | none =>
     simp only at he h3
     cases hh : headC r with
     | none => rw [hh] at he; cases he
     | some y' =>
      rw [hh] at he; cases he
      obtain ⟨v, c2, h6, h7⟩ := denC_head h4 hh
      refine ⟨trivial, v, ?_, h7⟩
      have h8 : cs[fd.offset]? = some v := by
       rw [← Array.getElem?_toList]
       have := congrArg (fun l => l[0]?) h6
       simpa using this
      simp [execOp, ho, Instr.field, hv, run_underlying hu, hfs, asAgg, part, isAgg_run (beq_iff_eq.1 h3), h8]
    | some k =>
     simp only [Bool.and_eq_true, beq_iff_eq] at he h3
     cases hh : takeC r k with
     | none => rw [hh] at he; cases he
     | some l' =>
      rw [hh] at he; cases he
      obtain ⟨h6, h7⟩ := denC_take _ _ _ _ h4 hh
      refine ⟨trivial, .agg (cs.extract fd.offset (fd.offset + k)), ?_, ?_⟩
      ·simp [execOp, ho, Instr.field, hv, run_underlying hu, hfs, asAgg, part, isAgg_run h3.1, szOf_run h3.2]
      ·simp only [den]
       refine ⟨_, rfl, ?_⟩
       rw [Array.toList_extract, List.extract_eq_take_drop]
       simpa using h6
  ·cases he
 ·cases h2
theorem q_fa {off : Nat} {y : Opd} (hok : okQ P o.op (.fa off y) = true) (hf : Fr E s.fr a) (he : ev (.fa off y) s = some q) : Comes1 P o a E q := by
 cases ho : o.op <;> simp only [okQ, ho] at hok <;> first | cases hok | skip
 rename_i T x f
 simp only [Bool.and_eq_true] at hok
 obtain ⟨h1, h2⟩ := hok
 have g := get_sound h1 hf
 split at h2
 ·rename_i fd hfd
  obtain ⟨fs, hu, hfs⟩ := fieldOf_run hfd
  simp only [Bool.and_eq_true, beq_iff_eq] at h2
  obtain ⟨h2, h3⟩ := h2
  subst h2
  cases hsz : szOf P fd.type with
  | none => rw [hsz] at h3; cases h3
  | some n =>
   rw [hsz] at h3
   simp only [bne_iff_ne, ne_eq] at h3
   have run : ∀ b o', a.eval x = .pointer (some ⟨b, o', none⟩) → (execOp a.eval o).run P E.w = .ok (.value (.pointer (some ⟨b, o' + fd.offset, none⟩))) E.w := by
    intro b o' hv
    have hadd : (⟨b, o', none⟩ : Addr).add fd.offset = ⟨b, o' + fd.offset, none⟩ := by unfold Addr.add; split <;> simp_all
    simp [execOp, ho, Instr.fieldAt, hv, run_underlying hu, hfs, Instr.sureAddr, fieldPlace, szOf_run hsz, h3, hadd]
   simp only [ev] at he
   split at he
   ·rename_i i o' hy
    cases he; rw [hy] at g; simp only [den] at g
    obtain ⟨hi, b, hb, hv⟩ := g
    exact ⟨trivial, _, run _ _ hv, by simp only [den]; exact ⟨hi, b, hb, rfl⟩⟩
   ·rename_i i n' sz o' hy
    cases he; rw [hy] at g; simp only [den] at g
    obtain ⟨hi, b, o2, l, c, hb, hv⟩ := g
    exact ⟨trivial, _, run _ _ hv, by simp only [den]; exact ⟨hi, b, o2, l, c, hb, by rw [Nat.add_assoc, Nat.add_assoc]⟩⟩
   ·rename_i p eb t xs n' o' hy
    cases he; rw [hy] at g; simp only [den] at g
    obtain ⟨vs, b, o2, l, c, hs, hb, hv⟩ := g
    exact ⟨trivial, _, run _ _ hv, by simp only [den]; exact ⟨vs, b, o2, l, c, hs, hb, by rw [Nat.add_assoc, Nat.add_assoc]⟩⟩
   ·rename_i i o' n' sz hy
    cases he; rw [hy] at g; simp only [den] at g
    obtain ⟨hi, b, hb, hv⟩ := g
    exact ⟨trivial, _, run _ _ hv, by simp only [den]; exact ⟨hi, b, hb, by rw [Nat.add_right_comm]⟩⟩
   ·rename_i i T hy
    cases he; rw [hy] at g; simp only [den] at g
    obtain ⟨hi, b, hb, hv, _⟩ := g
    exact ⟨trivial, _, run _ _ hv, by simp only [den]; exact ⟨hi, b, hb, by rw [Nat.zero_add]⟩⟩
   ·cases he
 ·cases h2
theorem idx_run {P : Program} {T e sz : Nat} {w : World} (hu : P.underlying T = some (.slice e)) (hs : szOf P e = some sz) (b o l c : Nat) (k : IntKind) (n : Int) (h0 : 0 ≤ n) (h1 : n < l) :
  (Instr.indexAt T (.slice (some ⟨b, o, none⟩) l c) (.int k n)).run P w = .ok (.pointer (some ⟨b, o + n.toNat * sz, none⟩)) w := by
 have hadd : (⟨b, o, none⟩ : Addr).add (n.toNat * sz) = ⟨b, o + n.toNat * sz, none⟩ := by unfold Addr.add; split <;> simp_all
 simp [Instr.indexAt, asIntOf, run_underlying hu, h0, h1, szOf_run hs, hadd]
theorem q_iaP {y j : Opd} (hok : okQ P o.op (.iaP y j) = true) (hf : Fr E s.fr a) (he : ev (.iaP y j) s = some q) (hn : q.need) : Comes1 P o a E q := by
 cases ho : o.op <;> simp only [okQ, ho] at hok <;> first | cases hok | skip
 rename_i T x i
 simp only [Bool.and_eq_true] at hok
 obtain ⟨⟨h1, h2⟩, h3⟩ := hok
 have g := get_sound h1 hf
 have g2 := get_sound h2 hf
 split at h3
 ·rename_i e hu
  have hsz := beq_iff_eq.1 h3
  simp only [ev] at he
  split at he
  ·rename_i k n hj
   rw [hj] at g2
   simp only [den] at g2
   obtain ⟨hi, _, _⟩ := g2
   split at he
   ·rename_i jj m hy
    rw [hy] at g
    cases he
    simp only at hn
    simp only [den] at g
    obtain ⟨hlt, b, cap, hb, hv, _, _⟩ := g
    refine ⟨trivial, .pointer (some ⟨b, 0 + n.toNat * 1, none⟩), ?_, ?_⟩
    ·simp [execOp, ho, hv, hi, idx_run hu hsz b 0 m cap k n hn.1 hn.2]
    ·simp only [den]
     exact ⟨hlt, b, hb, by simp⟩
   ·cases he
  ·cases he
 ·cases h3
theorem q_ia (h : HS s.hp E) {sz : Nat} {y j : Opd} (hok : okQ P o.op (.ia sz y j) = true) (hf : Fr E s.fr a) (he : ev (.ia sz y j) s = some q) (hn : q.need) : Comes1 P o a E q := by
  cases ho : o.op <;> simp only [okQ, ho] at hok <;> first | cases hok | skip
  rename_i T x i
  simp only [Bool.and_eq_true] at hok
  obtain ⟨⟨h1, h2⟩, h3⟩ := hok
  have g := get_sound h1 hf
  have g2 := get_sound h2 hf
  split at h3
  · rename_i e hu
    have hsz := beq_iff_eq.1 h3
    simp only [ev] at he
    split at he
    · rename_i k n hj
      rw [hj] at g2
      simp only [den] at g2
      obtain ⟨hi, _, _⟩ := g2
      split at he
      · rename_i p eb t xs hy
        rw [hy] at g
        split at he
        · rename_i hszt
          cases he
          simp only at hn
          simp only [den] at g
          rcases g with ⟨hx, _⟩ | ⟨b, off, cap, cur, T', fr, cs, hv, hr⟩
          · rw [hx] at hn; simp at hn; omega
          · refine ⟨trivial, .pointer (some ⟨b, off + n.toNat * sz, none⟩), ?_, ?_⟩
            · simp [execOp, ho, hv, hi, idx_run hu hsz b off xs.length cap k n hn.1 hn.2]
            · simp only [den]
              exact ⟨_, b, off, xs.length, cap, .inr ⟨b, off, cap, cur, T', fr, cs, rfl, hr⟩, rfl, by simp [hszt]⟩
        · cases he
      · rename_i jj hy
        rw [hy] at g
        split at he
        · rename_i mv eb t xs hjj
          cases he
          simp only at hn
          simp only [den] at g
          obtain ⟨hlt, hv, _⟩ := g
          rcases h.ok jj _ hjj with ⟨_, _, rfl⟩ | ⟨b, off, cap, cur, T', fr, cs, hval, hr⟩
          · simp at hn; omega
          · rw [hval] at hv
            refine ⟨trivial, .pointer (some ⟨b, off + n.toNat * sz, none⟩), ?_, ?_⟩
            · simp [execOp, ho, hv, hi, idx_run hu hsz b off xs.length cap k n hn.1 hn.2]
            · simp only [den]
              exact ⟨hlt, b, off, xs.length, cap, hval, by simp⟩
        · cases he
      · rename_i jj lo hi' sz' hy
        rw [hy] at g
        split at he
        · rename_i mv eb t xs hjj
          split at he
          · rename_i hszz
            cases he
            simp only at hn
            simp only [den] at g
            obtain ⟨hlt, hle, g⟩ := g
            rcases g with ⟨rfl, rfl, _⟩ | ⟨b, o', l, c, hval, hhi, ad, hv, had⟩
            · simp at hn; omega
            · rcases h.ok jj _ hjj with ⟨_, _, hval'⟩ | ⟨b', off, cap, cur, T', fr, cs, hval', hb', hh, hz, hle', hr⟩
              · exfalso
                have hx0 : xs.length = 0 := by rw [hval']; rfl
                omega
              · rw [hval] at hval'
                injection hval' with e1 e2 e3
                subst e2; subst e3
                have hc : c ≠ lo := by omega
                rw [had hc] at hv
                refine ⟨trivial, .pointer (some ⟨b, o' + lo * sz' + n.toNat * sz, none⟩), ?_, ?_⟩
                · simp [execOp, ho, hv, hi, idx_run hu hsz b (o' + lo * sz') (hi' - lo) (c - lo) k n hn.1 (by omega)]
                · simp only [den]
                  refine ⟨hlt, b, o', xs.length, c, hval, ?_⟩
                  rw [← hszz.1, Nat.add_mul]
                  simp [Nat.add_assoc]
          · cases he
        · cases he
      · cases he
    · cases he
  · cases h3
theorem q_iaA {len sz : Nat} {y j : Opd} (hok : okQ P o.op (.iaA len sz y j) = true) (hf : Fr E s.fr a) (he : ev (.iaA len sz y j) s = some q) (hn : q.need) : Comes1 P o a E q := by
 cases ho : o.op <;> simp only [okQ, ho] at hok <;> first | cases hok | skip
 rename_i T x i
 simp only [Bool.and_eq_true] at hok
 obtain ⟨⟨h1, h2⟩, h3⟩ := hok
 have g := get_sound h1 hf
 have g2 := get_sound h2 hf
 split at h3
 ·rename_i n' e hu
  simp only [Bool.and_eq_true, beq_iff_eq] at h3
  obtain ⟨rfl, hsz⟩ := h3
  simp only [ev] at he
  split at he
  ·rename_i k n hj
   rw [hj] at g2
   simp only [den] at g2
   obtain ⟨hi, _, _⟩ := g2
   split at he
   ·rename_i jj off hy
    cases he
    rw [hy] at g
    simp only [den] at g
    obtain ⟨hlt, b, hb, hv⟩ := g
    simp only at hn
    have hadd : (⟨b, off, none⟩ : Addr).add (n.toNat * sz) = ⟨b, off + n.toNat * sz, none⟩ := by unfold Addr.add; split <;> simp_all
    refine ⟨trivial, .pointer (some ⟨b, off + n.toNat * sz, none⟩), ?_, ?_⟩
    ·simp [execOp, ho, hv, hi, Instr.indexAt, asIntOf, run_underlying hu, Instr.sureAddr, hn.1, hn.2, szOf_run hsz, hadd]
    ·simp only [den]; exact ⟨hlt, b, hb, rfl⟩
   ·cases he
  ·cases he
 ·cases h3
theorem okKind_i {P : Program} {T : TypeId} (h : okKind P T .i = true) : P.underlying T = some .string := by
 simp only [okKind] at h; split at h <;> first | assumption | cases h
theorem q_ixS {y j : Opd} (hok : okQ P o.op (.ixS y j) = true) (hf : Fr E s.fr a) (he : ev (.ixS y j) s = some q) (hn : q.need) : Comes1 P o a E q := by
 cases ho : o.op <;> simp only [okQ, ho] at hok <;> first | cases hok | skip
 rename_i T x i
 simp only [Bool.and_eq_true] at hok
 obtain ⟨⟨h1, h2⟩, h3⟩ := hok
 have g := get_sound h1 hf
 have g2 := get_sound h2 hf
 have hu := okKind_i h3
 simp only [ev] at he
 split at he
 ·rename_i b hy
  rw [hy] at g
  split at he
  ·rename_i k n hj
   cases he
   rw [hj] at g2
   simp only [den] at g g2
   simp only at hn
   have hlt : n.toNat < b.size := by omega
   have hget : b[n.toNat]? = some (b.data.toList.getD n.toNat 0) := by
    have : n.toNat < b.data.toList.length := by simpa using hlt
    rw [List.getD_eq_getElem?_getD, List.getElem?_eq_getElem this]
    simp [getElem?_pos, hlt]; rfl
   refine ⟨trivial, .int .u8 ((b.data.toList.getD n.toNat 0).toNat : Int), ?_, ?_⟩
   ·simp [execOp, ho, g.1, g2.1, Instr.index, asIntOf, run_underlying hu, hn.1, hget]
   ·simp only [den]
    exact ⟨trivial, u8_in _⟩
  ·cases he
 ·cases he
theorem q_ld (h : HS s.hp E) {y : Opd} (hok : okQ P o.op (.ld y) = true) (hf : Fr E s.fr a) (he : ev (.ld y) s = some q) (hn : q.need) : Comes1 P o a E q := by
 cases ho : o.op <;> simp only [okQ, ho] at hok <;> first | cases hok | skip
 rename_i T x
 simp only [Bool.and_eq_true, beq_iff_eq] at hok
 obtain ⟨h1, h2⟩ := hok
 have g := get_sound h1 hf
 simp only [ev] at he
 split at he
 ·cases he
 ·rename_i need l hs
  cases hh : headC l with
  | none => rw [hh] at he; cases he
  | some y' =>
   rw [hh] at he; cases he
   obtain ⟨b, off, cur, T', fr, cs, r, hv, hb, hd, hc⟩ := seen_sound h g hs hn
   obtain ⟨v, c2, rfl, h4⟩ := denC_head hc hh
   have hcell : E.w.cell? ⟨b, off, none⟩ = some v := by
    have := congrArg (fun l => l[0]?) hd
    simp [World.cell?, hb]
    simpa using this
   exact ⟨trivial, v, by simp [execOp, ho, hv, Instr.loadAt, Instr.sureAddr, loadVar, isAgg_run h2, hcell], h4⟩
theorem loadCells_run {P : Program} {w : World} {b off : Nat} {cur : Array Value} {T : TypeId} {fr : Nat × Nat} (hb : w.heap[b]? = some (.cells cur T fr)) {cs r : List Value} (hd : cur.toList.drop off = cs ++ r) :
  (loadCells ⟨b, off, none⟩ cs.length).run P w = .ok cs.toArray w := by
 refine run_loadCells_list w ⟨b, off, none⟩ cs (fun j v hj => ?_)
 have hadd : (⟨b, off, none⟩ : Addr).add j = ⟨b, off + j, none⟩ := by unfold Addr.add; split <;> simp_all
 rw [hadd]
 have hlt : j < cs.length := (List.getElem?_eq_some_iff.1 hj).1
 have := congrArg (fun l => l[j]?) hd
 simp only [List.getElem?_drop, List.getElem?_append_left hlt, hj] at this
 simp [World.cell?, hb]
 simpa using this
theorem q_ldA (h : HS s.hp E) {n : Nat} {y : Opd} (hok : okQ P o.op (.ldA n y) = true) (hf : Fr E s.fr a) (he : ev (.ldA n y) s = some q) (hn : q.need) : Comes1 P o a E q := by
 cases ho : o.op <;> simp only [okQ, ho] at hok <;> first | cases hok | skip
 rename_i T x
 simp only [Bool.and_eq_true, beq_iff_eq] at hok
 obtain ⟨⟨h1, h2⟩, h3⟩ := hok
 have g := get_sound h1 hf
 simp only [ev] at he
 split at he
 ·cases he
 ·rename_i need l hs
  cases hh : takeC l n with
  | none => rw [hh] at he; cases he
  | some l' =>
   rw [hh] at he; cases he
   obtain ⟨b, off, cur, T', fr, cs, r, hv, hb, hd, hc⟩ := seen_sound h g hs hn
   obtain ⟨h4, h5⟩ := denC_take _ _ _ _ hc hh
   have hlen : (cs.take n).length = n := by simp; omega
   have hd' : cur.toList.drop off = cs.take n ++ (cs.drop n ++ r) := by rw [← List.append_assoc, List.take_append_drop]; exact hd
   have hrun := loadCells_run (P := P) hb hd'
   rw [hlen] at hrun
   refine ⟨trivial, .agg (cs.take n).toArray, ?_, ?_⟩
   ·simp [execOp, ho, hv, Instr.loadAt, Instr.sureAddr, loadVar, isAgg_run h2, szOf_run h3, hrun]
   ·simp only [den]; exact ⟨_, rfl, h4⟩
theorem intCmp_run {P : Program} {w : World} (op : BinOp) (k : IntKind) (x y : Int) (T : TypeId) (h : op = .eql ∨ op = .neq ∨ op = .lss ∨ op = .leq ∨ op = .gtr ∨ op = .geq) :
  (binOp op T (.int k x) (.int k y)).run P w = (Op.intCmp op x y).run P w := by
 rcases h with rfl | rfl | rfl | rfl | rfl | rfl <;> simp [binOp]
theorem k_range (k : IntKind) (n : Int) : inR k (k.wrap n) := by
 cases k <;> simp only [inR, IntKind.wrap, IntKind.min, IntKind.max, IntKind.signed, IntKind.bits] <;> simp <;> (try split) <;> omega
theorem bits_run {P : Program} {w : World} (op : BinOp) (k : IntKind) (x y : Int) (T : TypeId) (h : op = .and ∨ op = .or ∨ op = .xor ∨ op = .andNot) :
  (binOp op T (.int k x) (.int k y)).run P w = .ok (.int k (bitsI op k x y)) w := by
 rcases h with rfl | rfl | rfl | rfl <;> simp [binOp, Op.intBits, bitsI]
theorem tmod_in (k : IntKind) (a b : Int) (ha : inR k a) : inR k (a.tmod b) := by
 have h1 : (a.tmod b).natAbs ≤ a.natAbs := by
  rw [Int.natAbs_tmod]; exact Nat.mod_le _ _
 have h2 : 0 ≤ a → 0 ≤ a.tmod b := fun h => Int.tmod_nonneg b h
 have h3 : k.min ≤ 0 ∧ 0 ≤ k.max := by cases k <;> decide
 obtain ⟨h4, h5⟩ := ha
 have h6 : a ≤ 0 → a.tmod b ≤ 0 := fun h => by
  have := Int.tmod_nonneg b (show 0 ≤ -a by omega)
  rw [Int.neg_tmod] at this; omega
 constructor
 ·rcases Int.le_total 0 a with h | h
  ·have := h2 h; omega
  ·have := h6 h; omega
 ·rcases Int.le_total 0 a with h | h
  ·have := h2 h; omega
  ·have := h6 h; omega
theorem fdiv_in (k : IntKind) (a : Int) (n : Nat) (ha : inR k a) : inR k (a.fdiv (2 ^ n)) := by
 have h3 : k.min ≤ 0 ∧ 0 ≤ k.max := by cases k <;> decide
 obtain ⟨h4, h5⟩ := ha
 have hp : (0 : Int) < 2 ^ n := Int.pow_pos (by omega)
 rw [Int.fdiv_eq_ediv_of_nonneg _ (Int.le_of_lt hp)]
 constructor
 ·rcases Int.le_total 0 a with h | h
  ·have := Int.ediv_nonneg h (Int.le_of_lt hp); omega
  ·have : k.min ≤ a / 2 ^ n := by
    refine Int.le_trans h4 ?_
    refine (Int.le_ediv_iff_mul_le hp).2 ?_
    have h1 : (1 : Int) ≤ 2 ^ n := hp
    have h2 : a * 2 ^ n ≤ a * 1 := Int.mul_le_mul_of_nonpos_left h h1
    omega
   exact this
 ·rcases Int.le_total 0 a with h | h
  ·exact Int.le_trans (Int.ediv_le_self _ h) h5
  ·have : a / 2 ^ n < 1 := (Int.ediv_lt_iff_lt_mul hp).2 (by omega)
   omega
theorem eqGuard_int {P : Program} {w : World} (op : BinOp) (T : TypeId) (x y : Operand) (k k' : IntKind) (a b : Int) : (eqGuard op T x y (.int k a) (.int k' b)).run P w = .ok () w := by
 unfold eqGuard; split <;> simp
theorem eqGuard_str {P : Program} {w : World} (op : BinOp) (T : TypeId) (x y : Operand) (a b : ByteArray) : (eqGuard op T x y (.string a) (.string b)).run P w = .ok () w := by
 unfold eqGuard; split <;> simp
theorem binI_sound {P : Program} {w : World} {op : BinOp} {T : TypeId} {k k' : IntKind} {x y : Int} {q : QR} {E : En} (h : binI op k k' x y = some q) (hx : inR k x) (hy : inR k' y) (hn : q.need) :
  q.hyp ∧ ∃ v, (binOp op T (.int k x) (.int k' y)).run P w = .ok v w ∧ den E q.val v := by
 cases op <;> simp only [binI] at h
 case shl => cases h; exact ⟨⟨hx, hy⟩, .int k (k.wrap (x * 2 ^ (min y.toNat k.bits))), by simp [binOp, Op.shift, show ¬ y < 0 by simpa using hn], by simp only [den]; exact ⟨trivial, k_range _ _⟩⟩
 case shr => cases h; exact ⟨⟨hx, hy⟩, .int k (x.fdiv (2 ^ (min y.toNat k.bits))), by simp [binOp, Op.shift, show ¬ y < 0 by simpa using hn], by simp only [den]; exact ⟨trivial, fdiv_in _ _ _ hx⟩⟩
 all_goals
  split at h <;> try cases h
  rename_i hk
  subst hk
 case add => exact ⟨⟨hx, hy⟩, .int k (k.wrap (x + y)), by simp [binOp, Op.intArith], by simp only [den]; exact ⟨trivial, k_range _ _⟩⟩
 case sub => exact ⟨⟨hx, hy⟩, .int k (k.wrap (x - y)), by simp [binOp, Op.intArith], by simp only [den]; exact ⟨trivial, k_range _ _⟩⟩
 case mul => exact ⟨⟨hx, hy⟩, .int k (k.wrap (x * y)), by simp [binOp, Op.intArith], by simp only [den]; exact ⟨trivial, k_range _ _⟩⟩
 case quo => exact ⟨⟨hx, hy⟩, .int k (k.wrap (x.tdiv y)), by simp [binOp, Op.intDiv, show ¬ y = 0 from hn], by simp only [den]; exact ⟨trivial, k_range _ _⟩⟩
 case rem => exact ⟨⟨hx, hy⟩, .int k (x.tmod y), by simp [binOp, Op.intDiv, show ¬ y = 0 from hn], by simp only [den]; exact ⟨trivial, tmod_in _ _ _ hx⟩⟩
 case and => exact ⟨⟨hx, hy⟩, _, bits_run _ _ _ _ _ (by simp), by simp only [den]; exact ⟨trivial, k_range _ _⟩⟩
 case or => exact ⟨⟨hx, hy⟩, _, bits_run _ _ _ _ _ (by simp), by simp only [den]; exact ⟨trivial, k_range _ _⟩⟩
 case xor => exact ⟨⟨hx, hy⟩, _, bits_run _ _ _ _ _ (by simp), by simp only [den]; exact ⟨trivial, k_range _ _⟩⟩
 case andNot => exact ⟨⟨hx, hy⟩, _, bits_run _ _ _ _ _ (by simp), by simp only [den]; exact ⟨trivial, k_range _ _⟩⟩
 all_goals exact ⟨trivial, _, by rw [intCmp_run _ _ _ _ _ (by simp)]; rfl, by simp only [den] <;> rfl⟩
theorem binS_sound {P : Program} {w : World} {op : BinOp} {T : TypeId} {x y : ByteArray} {q : QR} {E : En} (h : binS op x y = some q) (hn : q.need) :
  q.hyp ∧ ∃ v, (binOp op T (.string x) (.string y)).run P w = .ok v w ∧ den E q.val v := by
 have heq : (x.toList == y.toList) = decide (x = y) := by
  rw [Bool.eq_iff_iff]
  simp only [beq_iff_eq, decide_eq_true_eq]
  rw [ByteArray.toList_eq, ByteArray.toList_eq]
  exact ⟨bytes_ext, fun h => by rw [h]⟩
 have hlt : Op.bytesLess x.toList y.toList = ltS x y := by rw [ByteArray.toList_eq, ByteArray.toList_eq]; rfl
 cases op <;> simp only [binS] at h <;> cases h
 case add =>
  simp only at hn
  have : ¬ IntKind.max .i64 < (x.size : Int) + (y.size : Int) := by
   simp only [maxLen] at hn
   simp [IntKind.max, IntKind.signed, IntKind.bits]; omega
  have hne : ¬ (((x.size + y.size : Nat) : Int) > IntKind.i64.max) := by rw [Int.natCast_add]; exact this
  exact ⟨trivial, .string (x ++ y), by simp only [binOp, Op.stringOp, if_neg hne]; rfl, by simp only [den]; exact ⟨trivial, by rw [ByteArray.size_append]; exact hn⟩⟩
 all_goals exact ⟨trivial, _, by simp only [binOp, Op.stringOp, heq, hlt]; rfl, by simp only [den]⟩
theorem q_bin {op : BinOp} {y z : Opd} (hok : okQ P o.op (.bin op y z) = true) (hf : Fr E s.fr a) (he : ev (.bin op y z) s = some q) (hn : q.need) : Comes1 P o a E q := by
 cases ho : o.op <;> simp only [okQ, ho] at hok <;> first | cases hok | skip
 rename_i op' T x x' _
 simp only [Bool.and_eq_true, decide_eq_true_eq] at hok
 obtain ⟨⟨rfl, h1⟩, h2⟩ := hok
 have g := get_sound h1 hf
 have g2 := get_sound h2 hf
 simp only [ev] at he
 split at he
 ·rename_i k n hy
  rw [hy] at g
  split at he
  ·rename_i k' n' hz
   rw [hz] at g2
   simp only [den] at g g2
   obtain ⟨h3, v, h4, h5⟩ := binI_sound (P := P) (w := E.w) (T := T) (E := E) he g.2 g2.2 hn
   exact ⟨h3, v, by simp [execOp, ho, g.1, g2.1, eqGuard_int, h4], h5⟩
  ·cases he
 ·rename_i b hy
  rw [hy] at g
  split at he
  ·rename_i b' hz
   rw [hz] at g2
   simp only [den] at g g2
   obtain ⟨h3, v, h4, h5⟩ := binS_sound (P := P) (w := E.w) (T := T) (E := E) he hn
   exact ⟨h3, v, by simp [execOp, ho, g.1, g2.1, eqGuard_str, h4], h5⟩
  ·cases he
 ·cases he
def plainEq : Value → Bool
 | .bool _ | .pointer _ | .slice _ _ _ | .map _ | .func _ _ _ | .nilFunc => true
 | _ => false
theorem eq_run {P : Program} {w : World} {T : TypeId} {x x' : Operand} {v v' : Value} {b : Bool} (ng : Bool) (hv : plainEq v = true) (hv' : plainEq v' = true)
  (h : ∀ d, (Op.equalIn (d + 1) T v v').run P w = .ok b w) :
  (do eqGuard (if ng = true then BinOp.neq else BinOp.eql) T x x' v v'; binOp (if ng = true then BinOp.neq else BinOp.eql) T v v' : Sem Value).run P w = .ok (.bool (bif ng then !b else b)) w := by
 have he : (Op.equal T v v').run P w = .ok b w := h 9999
 have hg : (eqGuard (if ng = true then BinOp.neq else BinOp.eql) T x x' v v').run P w = .ok () w := by
  cases ng <;> cases v <;> simp only [plainEq, Bool.false_eq_true] at hv <;> simp [eqGuard]
 have hb : binOp (if ng = true then BinOp.neq else BinOp.eql) T v v' = (do let r ← Op.equal T v v'; pure (.bool (bif ng then !r else r))) := by
  cases ng <;> cases v <;> simp only [plainEq, Bool.false_eq_true] at hv <;> cases v' <;> simp only [plainEq, Bool.false_eq_true] at hv' <;> rfl
 rw [Sem.run_bind, hg, Result.andThen_ok, hb]
 cases ng <;> simp [he]
theorem eq_comes {ng : Bool} {T : TypeId} {x x' : Operand} {U : TypeId} {v v' : Value} {b : Bool} (ho : o.op = .binOp (if ng = true then BinOp.neq else BinOp.eql) T x x' U) (e1 : a.eval x = v) (e2 : a.eval x' = v')
  (hv : plainEq v = true) (hv' : plainEq v' = true) (h : ∀ d, (Op.equalIn (d + 1) T v v').run P E.w = .ok b E.w) :
  (execOp a.eval o).run P E.w = .ok (.value (.bool (bif ng then !b else b))) E.w := by
 have := eq_run (P := P) (w := E.w) (T := T) (x := x) (x' := x') ng hv hv' h
 simp only [execOp, ho, e1, e2, Sem.run_bind, Sem.run_pure] at this ⊢
 rw [this]; rfl
theorem q_binB {ng : Bool} {y z : Opd} (hok : okQ P o.op (.binB ng y z) = true) (hf : Fr E s.fr a) (he : ev (.binB ng y z) s = some q) : Comes1 P o a E q := by
 cases ho : o.op <;> simp only [okQ, ho] at hok <;> first | cases hok | skip
 rename_i op' T x x' _
 simp only [Bool.and_eq_true, decide_eq_true_eq] at hok
 obtain ⟨⟨⟨rfl, h1⟩, h2⟩, h3⟩ := hok
 have g := get_sound h1 hf
 have g2 := get_sound h2 hf
 split at h3
 ·rename_i hu
  simp only [ev] at he
  split at he
  ·rename_i b hy
   rw [hy] at g
   split at he
   ·rename_i b' hz
    cases he
    rw [hz] at g2
    simp only [den] at g g2
    exact ⟨trivial, _, eq_comes ho g g2 rfl rfl (b := b == b') (fun d => by simp [Op.equalIn, run_underlying hu]), by simp only [den]⟩
   ·cases he
  ·cases he
 ·cases h3
theorem q_eqn {ng : Bool} {k : NK} {y z : Opd} (hok : okQ P o.op (.eqn ng k y z) = true) (hf : Fr E s.fr a) (he : ev (.eqn ng k y z) s = some q) : Comes1 P o a E q := by
 cases ho : o.op <;> simp only [okQ, ho] at hok <;> first | cases hok | skip
 rename_i op' T x x' _
 simp only [Bool.and_eq_true, decide_eq_true_eq] at hok
 obtain ⟨⟨⟨rfl, h1⟩, h2⟩, h3⟩ := hok
 have g := get_sound h1 hf
 have g2 := get_sound h2 hf
 simp only [ev] at he
 split at he <;> try cases he
 all_goals
  rename_i hy hz
  rw [hy] at g; rw [hz] at g2
  simp only [okKind] at h3
  split at h3 <;> try cases h3
  rename_i hu
  simp only [den] at g g2
 ·exact ⟨trivial, _, eq_comes ho g g2 rfl rfl (b := true) (fun d => by simp [Op.equalIn, run_underlying hu]), by simp only [den]; cases ng <;> rfl⟩
 ·obtain ⟨_, b, _, g2⟩ := g2
  exact ⟨trivial, _, eq_comes ho g g2 rfl rfl (b := false) (fun d => by simp [Op.equalIn, run_underlying hu]), by simp only [den]; cases ng <;> rfl⟩
 ·obtain ⟨_, b, _, g⟩ := g
  exact ⟨trivial, _, eq_comes ho g g2 rfl rfl (b := false) (fun d => by simp [Op.equalIn, run_underlying hu]), by simp only [den]; cases ng <;> rfl⟩
 ·exact ⟨trivial, _, eq_comes ho g g2 rfl rfl (b := true) (fun d => by simp [Op.equalIn, run_underlying hu]), by simp only [den]; cases ng <;> rfl⟩
 ·exact ⟨trivial, _, eq_comes ho g g2 rfl rfl (b := true) (fun d => by simp [Op.equalIn, run_underlying hu]), by simp only [den]; cases ng <;> rfl⟩
 ·obtain ⟨_, b, _, g⟩ := g
  exact ⟨trivial, _, eq_comes ho g g2 rfl rfl (b := false) (fun d => by simp [Op.equalIn, run_underlying hu]), by simp only [den]; cases ng <;> rfl⟩
 ·exact ⟨trivial, _, eq_comes ho g g2 rfl rfl (b := true) (fun d => by simp [Op.equalIn, run_underlying hu]), by simp only [den]; cases ng <;> rfl⟩
 ·obtain ⟨_, g, _⟩ := g
  unfold fnV at g
  split at g
  ·exact ⟨trivial, _, eq_comes ho g g2 rfl rfl (b := false) (fun d => by simp [Op.equalIn, run_underlying hu]), by simp only [den]; cases ng <;> rfl⟩
  ·exact ⟨trivial, _, eq_comes ho g g2 rfl rfl (b := false) (fun d => by simp [Op.equalIn, run_underlying hu]), by simp only [den]; cases ng <;> rfl⟩
theorem q_not {y : Opd} (hok : okQ P o.op (.not y) = true) (hf : Fr E s.fr a) (he : ev (.not y) s = some q) : Comes1 P o a E q := by
 cases ho : o.op <;> simp only [okQ, ho] at hok <;> first | cases hok | skip
 rename_i u T x
 cases u <;> simp only at hok <;> try cases hok
 have g := get_sound hok hf
 simp only [ev] at he
 split at he
 ·rename_i b hy
  cases he
  rw [hy] at g
  simp only [den] at g
  exact ⟨trivial, .bool (!b), by simp [execOp, ho, g, Op.unary], by simp only [den]⟩
 ·cases he
theorem q_neg {y : Opd} (hok : okQ P o.op (.neg y) = true) (hf : Fr E s.fr a) (he : ev (.neg y) s = some q) : Comes1 P o a E q := by
 cases ho : o.op <;> simp only [okQ, ho] at hok <;> first | cases hok | skip
 rename_i u T x
 cases u <;> simp only at hok <;> try cases hok
 have g := get_sound hok hf
 simp only [ev] at he
 split at he
 ·rename_i k n hy
  cases he
  rw [hy] at g
  simp only [den] at g
  exact ⟨g.2, .int k (k.wrap (0 - n)), by simp [execOp, ho, g.1, Op.unary, Op.intArith], by simp only [den]; exact ⟨trivial, k_range _ _⟩⟩
 ·cases he
theorem q_cv {k : IntKind} {y : Opd} (hok : okQ P o.op (.cv k y) = true) (hf : Fr E s.fr a) (he : ev (.cv k y) s = some q) : Comes1 P o a E q := by
 cases ho : o.op <;> simp only [okQ, ho] at hok <;> first | cases hok | skip
 rename_i S D x
 simp only [Bool.and_eq_true] at hok
 obtain ⟨⟨h1, h2⟩, h3⟩ := hok
 have g := get_sound h1 hf
 obtain ⟨d, hd⟩ := Option.isSome_iff_exists.1 h2
 split at h3
 ·rename_i k' hu
  have hk := of_decide_eq_true h3
  subst hk
  simp only [ev] at he
  split at he
  ·rename_i k2 n hy
   cases he
   rw [hy] at g
   simp only [den] at g
   exact ⟨g.2, .int k' (k'.wrap n), by simp [execOp, ho, g.1, convert, run_underlying hd, run_underlying hu, Conv.intToInt], by simp only [den]; exact ⟨trivial, k_range _ _⟩⟩
  ·cases he
 ·cases h3
theorem q_cvS {y : Opd} (hok : okQ P o.op (.cvS y) = true) (hf : Fr E s.fr a) (he : ev (.cvS y) s = some q) : Comes1 P o a E q := by
 cases ho : o.op <;> simp only [okQ, ho] at hok <;> first | cases hok | skip
 rename_i S D x
 simp only [Bool.and_eq_true] at hok
 obtain ⟨⟨h1, h2⟩, h3⟩ := hok
 have g := get_sound h1 hf
 have hs := okKind_i h2
 have hd := okKind_i h3
 simp only [ev] at he
 split at he
 ·rename_i b hy
  cases he
  rw [hy] at g
  simp only [den] at g
  exact ⟨trivial, .string b, by simp [execOp, ho, g.1, convert, run_underlying hd, run_underlying hs], by simp only [den]; exact ⟨trivial, g.2⟩⟩
 ·cases he
theorem q_ext {i : Nat} {y : Opd} (hok : okQ P o.op (.ext y i) = true) (hf : Fr E s.fr a) (he : ev (.ext y i) s = some q) : Comes1 P o a E q := by
 have get : ∀ (l : List SV) (vs : List Value) (i : Nat) (x : SV), denL E l vs → l[i]? = some x → ∃ v, vs[i]? = some v ∧ den E x v := by
  intro l
  induction l with
  | nil => intro vs i x h hx; simp at hx
  | cons z r ih =>
   intro vs i x h hx
   simp only [denL] at h
   obtain ⟨v, r', rfl, h1, h2⟩ := h
   cases i with
   | zero => simp at hx; subst hx; exact ⟨v, rfl, h1⟩
   | succ i => simpa using ih r' i x h2 (by simpa using hx)
 cases ho : o.op <;> simp only [okQ, ho] at hok <;> first | cases hok | skip
 rename_i x j
 simp only [Bool.and_eq_true, beq_iff_eq] at hok
 obtain ⟨h1, rfl⟩ := hok
 have g := get_sound h1 hf
 simp only [ev] at he
 split at he
 ·rename_i l hy
  rw [hy] at g
  simp only [den] at g
  obtain ⟨vs, hv, hl⟩ := g
  cases hx : l[i]? with
  | none => rw [hx] at he; cases he
  | some x' =>
   rw [hx] at he
   cases he
   obtain ⟨v, h3, h4⟩ := get _ _ _ _ hl hx
   exact ⟨trivial, v, by simp [execOp, ho, hv, Instr.extract]; rw [Array.getElem?_toList] at h3; simp [h3], h4⟩
 ·cases he
end quiet
end Go.V
namespace Go.V
set_option linter.unusedSimpArgs false
set_option linter.unnecessarySimpa false
set_option linter.unusedVariables false
section quiet
variable {P : Program} {o : Oper} {s : SS} {E : En} {a : Act} {q : QR}
theorem scalOf_plain {T : TypeId} {t : Ty} (h : scalOf P T t = true) : P.plainKey T = true := by
 cases t <;> simp only [scalOf, Bool.false_eq_true] at h
 all_goals (split at h <;> first | cases h | skip)
 all_goals rename_i hu
 all_goals simp [Program.plainKey, hu]
theorem beq_ba (a b : ByteArray) : (a == b) = decide (a = b) := by
 cases a with
 | mk a => cases b with
  | mk b =>
   show (a == b) = _
   rw [Bool.eq_iff_iff, beq_iff_eq, decide_eq_true_eq, ByteArray.mk.injEq]
theorem eqC_sound {w : World} {d : Nat} {T : TypeId} {t : Ty} {x y : SV} {v v' : Value} {b : Bool} (he : eqC t x y = some b) (ht : scalOf P T t = true) (hx : den E x v) (hy : den E y v') :
  (Op.equalIn (d + 1) T v v').run P w = .ok b w := by
 cases t <;> simp only [scalOf, Bool.false_eq_true] at ht
 all_goals (split at ht <;> first | cases ht | skip)
 all_goals rename_i hu
 all_goals cases x <;> simp only [eqC, reduceCtorEq] at he
 all_goals cases y <;> simp only [eqC, reduceCtorEq] at he
 all_goals simp only [den] at hx hy
 all_goals first | subst hx | obtain ⟨rfl, _⟩ := hx
 all_goals first | subst hy | obtain ⟨rfl, _⟩ := hy
 ·split at he
  ·rename_i hk
   subst hk
   cases he
   rw [run_equalIn_int w d T _ _ _ _ hu]
   congr 1
  ·cases he
 ·cases he
  exact run_equalIn_bool' w d T _ _ hu
 ·cases he
  rw [run_equalIn_string w d T _ _ hu, ← beq_toListBytes]
  congr 1
  exact beq_ba _ _
theorem eqC_isArr {t : Ty} {x y : SV} {b : Bool} (he : eqC t x y = some b) : x.isArr = false ∧ y.isArr = false := by
 cases t <;> cases x <;> simp only [eqC, reduceCtorEq] at he <;> cases y <;> simp only [eqC, reduceCtorEq] at he <;> exact ⟨rfl, rfl⟩
theorem eqL_sound {w : World} {d : Nat} : ∀ (fs : List Field) (ts : List Ty) (n : Nat) (l l' : List SV) (xs ys : Array Value) (b : Bool), okFl P fs ts n = true → denC E l (xs.toList.drop n) → denC E l' (ys.toList.drop n) → eqL ts l l' = some b →
  (Op.eqFields (d + 1) xs ys fs).run P w = .ok b w
 | [], [], n, l, l', xs, ys, b, hok, h1, h2, he => by
  cases l <;> cases l' <;> simp only [eqL, reduceCtorEq, Option.some.injEq] at he
  subst he
  simp [Op.eqFields]
 | [], t :: ts, n, l, l', xs, ys, b, hok, h1, h2, he => by simp [okFl] at hok
 | f :: fs, [], n, l, l', xs, ys, b, hok, h1, h2, he => by simp [okFl] at hok
 | f :: fs, t :: ts, n, l, l', xs, ys, b, hok, h1, h2, he => by
  simp only [okFl, Bool.and_eq_true, beq_iff_eq, bne_iff_ne, ne_eq] at hok
  obtain ⟨⟨⟨h3, h4⟩, h5⟩, h6⟩ := hok
  cases l with
  | nil => simp [eqL] at he
  | cons x l =>
   cases l' with
   | nil => simp [eqL] at he
   | cons y l' =>
    simp only [eqL] at he
    cases hc : eqC t x y with
    | none => rw [hc] at he; simp [eqJ] at he
    | some c =>
     cases hr : eqL ts l l' with
     | none => rw [hc, hr] at he; simp [eqJ] at he
     | some r =>
      rw [hc, hr] at he
      simp only [eqJ, Option.some.injEq] at he
      subst he
      obtain ⟨hax, hay⟩ := eqC_isArr hc
      rw [denC_cons hax] at h1
      rw [denC_cons hay] at h2
      obtain ⟨v, c1, e1, g1, g2⟩ := h1
      obtain ⟨v', c2, e2, k1, k2⟩ := h2
      have cell : ∀ (zs : Array Value) (u : Value) (r : List Value), zs.toList.drop n = u :: r → zs[n]? = some u ∧ r = zs.toList.drop (n + 1) := fun zs u r e => by
       have h7 : zs.toList[n]? = some u := by
        have := congrArg List.head? e
        rw [List.head?_drop] at this
        exact this
       refine ⟨by rw [← Array.getElem?_toList]; exact h7, ?_⟩
       have := congrArg List.tail e
       rw [List.tail_drop] at this
       exact this.symm
      obtain ⟨a1, a2⟩ := cell xs v c1 e1
      obtain ⟨b1, b2⟩ := cell ys v' c2 e2
      subst a2
      subst b2
      have hp := scalOf_plain h5
      have p1 := run_part_plain w hp (xs := xs) (off := f.offset) (by rw [h3]; exact a1)
      have p2 := run_part_plain w hp (xs := ys) (off := f.offset) (by rw [h3]; exact b1)
      have ih := eqL_sound (w := w) (d := d) fs ts (n + 1) l l' xs ys r h6 g2 k2 hr
      have p3 := eqC_sound (w := w) (d := d) hc h5 g1 k1
      simp only [Op.eqFields, h4, ne_eq, not_false_eq_true, if_true, Sem.run_bind, p1, p2, p3, Result.andThen_ok]
      cases c
      ·simp
      ·simpa using ih
theorem agg_run {ng : Bool} {T : TypeId} {x x' : Operand} {xs ys : Array Value} {b : Bool} {w : World} (hg : P.eqGuardType P.depth T = false) (h : (Op.equalIn 10000 T (.agg xs) (.agg ys)).run P w = .ok b w) :
  (do eqGuard (if ng = true then BinOp.neq else BinOp.eql) T x x' (.agg xs) (.agg ys); binOp (if ng = true then BinOp.neq else BinOp.eql) T (.agg xs) (.agg ys) : Sem Value).run P w = .ok (.bool (bif ng then !b else b)) w := by
 rw [Sem.run_bind, run_eqGuard_agg w _ T x x' xs ys hg, Result.andThen_ok]
 cases ng
 ·show (binOp .eql T (.agg xs) (.agg ys)).run P w = _
  rw [run_eql_struct, h]
  rfl
 ·show (binOp .neq T (.agg xs) (.agg ys)).run P w = _
  rw [run_neq_struct, h]
  rfl
theorem q_eqS {ng : Bool} {ts : List Ty} {y z : Opd} (hok : okQ P o.op (.eqS ng ts y z) = true) (hf : Fr E s.fr a) (he : ev (.eqS ng ts y z) s = some q) : Comes1 P o a E q := by
 cases ho : o.op <;> simp only [okQ, ho] at hok <;> first | cases hok | skip
 rename_i op' T x x' _
 simp only [Bool.and_eq_true, decide_eq_true_eq] at hok
 obtain ⟨⟨⟨rfl, h1⟩, h2⟩, h3⟩ := hok
 have g := get_sound h1 hf
 have g2 := get_sound h2 hf
 unfold okFlT at h3
 split at h3
 ·rename_i fs hu
  simp only [Bool.and_eq_true, Bool.not_eq_true'] at h3
  obtain ⟨⟨h4, h5⟩, h6⟩ := h3
  simp only [ev] at he
  split at he
  ·rename_i l hy
   rw [hy] at g
   split at he
   ·rename_i l' hz
    rw [hz] at g2
    cases hb : eqL ts l l' with
    | none => rw [hb] at he; cases he
    | some b =>
     rw [hb] at he
     cases he
     simp only [den] at g g2
     obtain ⟨cs, e1, d1⟩ := g
     obtain ⟨cs', e2, d2⟩ := g2
     have hfo : P.fieldsOf T = fs := by simp [Program.fieldsOf, hu]
     have hq : (Op.equalIn 10000 T (.agg cs) (.agg cs')).run P E.w = .ok b E.w := by
      rw [show (10000 : Nat) = 9998 + 1 + 1 from rfl, run_equalIn_struct E.w (9998 + 1) T cs cs' (by rw [hfo]; exact hu) h5, hfo]
      exact eqL_sound fs.toList ts 0 l l' cs cs' b h4 (by simpa using d1) (by simpa using d2) hb
     have := agg_run (P := P) (ng := ng) (x := x) (x' := x') h6 hq
     refine ⟨trivial, .bool (bif ng then !b else b), ?_, by simp only [den]⟩
     simp only [execOp, ho, e1, e2, Sem.run_bind, Sem.run_pure] at this ⊢
     rw [this]
     rfl
   ·cases he
  ·cases he
 ·cases h3
theorem denArr {n : Nat} {k : IntKind} {xs : List Int} {cs : List Value} (h : denC E [.arr n (.int k) xs] cs) : xs.length = n ∧ cs = xs.map fun x => Value.int k x := by
 simp only [denC] at h
 obtain ⟨c1, c2, rfl, h1, h2, h3, h4⟩ := h
 subst h4
 refine ⟨h1, ?_⟩
 rw [List.append_nil]
 clear h1
 induction xs generalizing c1 with
 | nil => simpa [rdL] using h3
 | cons x xs ih =>
  simp only [rdL] at h3
  obtain ⟨d1, d2, rfl, h5, h6⟩ := h3
  rw [ih d2 h6]
  simp only [rd] at h5
  rw [h5.1]
  rfl
theorem items_run {w : World} {d e : Nat} {k k' : IntKind} (hu : P.underlying e = some (.int k')) {as bs : List Int} {cs ds : Array Value} (hc : cs.toList = as.map fun x => Value.int k x) (hd : ds.toList = bs.map fun x => Value.int k x) : ∀ (is : List Nat), (∀ i ∈ is, i < as.length ∧ i < bs.length) →
  (Op.eqItems (d + 1) e 1 cs ds is).run P w = .ok (is.all fun i => as[i]? == bs[i]?) w
 | [], _ => by simp [Op.eqItems]
 | i :: is, h => by
  obtain ⟨h1, h2⟩ := h i List.mem_cons_self
  have ih := items_run (w := w) (d := d) hu hc hd is (fun j hj => h j (List.mem_cons_of_mem _ hj))
  have hp : P.plainKey e = true := by simp [Program.plainKey, hu]
  have get : ∀ (zs : Array Value) (l : List Int), zs.toList = l.map (fun x => Value.int k x) → ∀ hl : i < l.length, zs[i * 1]? = some (.int k l[i]) := fun zs l e hl => by
   rw [Nat.mul_one, ← Array.getElem?_toList, e, List.getElem?_map, List.getElem?_eq_getElem hl]
   rfl
  have p1 := run_part_plain w hp (get cs as hc h1)
  have p2 := run_part_plain w hp (get ds bs hd h2)
  have p3 := run_equalIn_int w d e k k' as[i] bs[i] hu
  simp only [Op.eqItems, Sem.run_bind, p1, p2, p3, Result.andThen_ok, List.all_cons, List.getElem?_eq_getElem h1, List.getElem?_eq_getElem h2]
  by_cases hab : as[i] = bs[i]
  ·rw [hab]
   simpa using ih
  ·have : (as[i] == bs[i]) = false := by simpa using hab
   have h7 : (some as[i] == some bs[i]) = false := by simpa using hab
   rw [this, h7]
   simp
theorem q_eqR {ng : Bool} {n : Nat} {y z : Opd} (hok : okQ P o.op (.eqR ng n y z) = true) (hf : Fr E s.fr a) (he : ev (.eqR ng n y z) s = some q) : Comes1 P o a E q := by
 cases ho : o.op <;> simp only [okQ, ho] at hok <;> first | cases hok | skip
 rename_i op' T x x' _
 simp only [Bool.and_eq_true, decide_eq_true_eq] at hok
 obtain ⟨⟨⟨rfl, h1⟩, h2⟩, h3⟩ := hok
 have g := get_sound h1 hf
 have g2 := get_sound h2 hf
 unfold okArT at h3
 split at h3
 ·rename_i m0 e hu
  simp only [Bool.and_eq_true, Bool.not_eq_true', beq_iff_eq] at h3
  obtain ⟨⟨⟨⟨rfl, h4⟩, h5⟩, h6⟩, h7⟩ := h3
  obtain ⟨i, hi⟩ := Option.isSome_iff_exists.1 h5
  simp only [scalOf] at h4
  split at h4
  ·rename_i k0 hue
   simp only [ev] at he
   split at he
   ·rename_i m k xs hy
    rw [hy] at g
    split at he
    ·rename_i m' k' ys hz
     rw [hz] at g2
     split at he
     ·rename_i hc
      obtain ⟨rfl, rfl, rfl⟩ := hc
      cases he
      simp only [den] at g g2
      obtain ⟨cs, e1, d1⟩ := g
      obtain ⟨cs', e2, d2⟩ := g2
      obtain ⟨l1, d1⟩ := denArr d1
      obtain ⟨l2, d2⟩ := denArr d2
      have hq : (Op.equalIn 10000 T (.agg cs) (.agg cs')).run P E.w = .ok (decide ((xs : List Int) = ys)) E.w := by
       rw [show (10000 : Nat) = 9998 + 1 + 1 from rfl, run_equalIn_array E.w (9998 + 1) cs cs' hu hi, h6, items_run hue d1 d2 _ (fun j hj => by rw [l1, l2]; exact ⟨List.mem_range.1 hj, List.mem_range.1 hj⟩)]
       congr 1
       rw [Bool.eq_iff_iff]
       simp only [List.all_eq_true, List.mem_range, beq_iff_eq, decide_eq_true_eq]
       constructor
       ·intro h
        apply List.ext_getElem?
        intro j
        rcases Nat.lt_or_ge j xs.length with hj | hj
        ·exact h j (by omega)
        ·rw [List.getElem?_eq_none (by omega), List.getElem?_eq_none (by omega)]
       ·rintro h j _
        rw [h]
      have := agg_run (P := P) (ng := ng) (x := x) (x' := x') h7 hq
      refine ⟨trivial, .bool (bif ng then !(decide ((xs : List Int) = ys)) else (decide ((xs : List Int) = ys))), ?_, by simp only [den]⟩
      simp only [execOp, ho, e1, e2, Sem.run_bind, Sem.run_pure] at this ⊢
      rw [this]
      rfl
     ·cases he
    ·cases he
   ·cases he
  ·cases h4
 ·cases h3
end quiet
end Go.V
namespace Go.V
set_option linter.unusedSimpArgs false
set_option linter.unnecessarySimpa false
set_option linter.unusedVariables false
section quiet
variable {P : Program} {o : Oper} {s : SS} {E : En} {a : Act} {q : QR}
theorem okOpds1 {a : Act} {args : List Operand} {y : Opd} (h : okOpds args [y] = true) : ∃ x, args = [x] ∧ okOpd x y = true := by
 match args, h with
 | [x], h => simp only [okOpds, Bool.and_eq_true] at h; exact ⟨x, rfl, h.1⟩
 | [], h => simp [okOpds] at h
 | x :: x' :: r, h => simp [okOpds] at h
theorem okOpds2 {a : Act} {args : List Operand} {y z : Opd} (h : okOpds args [y, z] = true) : ∃ x x', args = [x, x'] ∧ okOpd x y = true ∧ okOpd x' z = true := by
 match args, h with
 | [x, x'], h => simp only [okOpds, Bool.and_eq_true] at h; exact ⟨x, x', rfl, h.1, h.2.1⟩
 | [], h => simp [okOpds] at h
 | [x], h => simp [okOpds] at h
 | x :: x' :: x'' :: r, h => simp [okOpds] at h
theorem okOpds_sound (hf : Fr E s.fr a) : ∀ (args : List Operand) (ys : List Opd), okOpds args ys = true → denL E (ys.map s.get) (args.map a.eval)
 | [], [], _ => by simp [denL]
 | [], _ :: _, h => by simp [okOpds] at h
 | _ :: _, [], h => by simp [okOpds] at h
 | x :: xs, y :: ys, h => by
  simp only [okOpds, Bool.and_eq_true] at h
  simp only [List.map_cons, denL]
  exact ⟨_, _, rfl, get_sound h.1 hf, okOpds_sound hf xs ys h.2⟩
theorem call_run {P : Program} {o : Oper} {a : Act} {b : Builtin} {args : Array Operand} {ts : Array TypeId} (ho : o.op = .call { callee := .builtin b, args := args, argTypes := ts }) {w : World} :
  ∃ cs, (execOp a.eval o).run P w = (builtin b ts o.type cs (args.map a.eval)).run P w := by
 simp only [execOp, ho, resolve, Sem.run_bind, Sem.run_pure, Result.andThen_ok, invoke]
 exact ⟨_, rfl⟩
theorem len_in {n : Nat} (h : n ≤ maxLen) : inR .i64 (n : Int) := by
 simp only [maxLen] at h
 simp only [inR, IntKind.min, IntKind.max, IntKind.signed, IntKind.bits]
 simp
 omega
theorem okKind_s {P : Program} {T : TypeId} (h : okKind P T .s = true) : ∃ e, P.underlying T = some (.slice e) := by
 simp only [okKind] at h; split at h
 ·rename_i e hu; exact ⟨e, hu⟩
 ·cases h
theorem okKind_m {P : Program} {T : TypeId} (h : okKind P T .m = true) : ∃ k e, P.underlying T = some (.map k e) := by
 simp only [okKind] at h; split at h
 ·rename_i k e hu; exact ⟨k, e, hu⟩
 ·cases h
theorem slr_val {α : Type} {w : World} {R : α → List Value → Prop} {eb sz : Nat} {xs : List α} {v : Value} (h : slr w R eb sz xs v) : ∃ A c, v = .slice A xs.length c ∧ xs.length ≤ maxLen ∧ xs.length * eb ≤ 140737488355328 := by
 rcases h with ⟨rfl, A, c, rfl, _⟩ | ⟨b, off, cap, cur, T, fr, cs, rfl, _, _, h1, h2, h3, _⟩
 ·exact ⟨A, c, rfl, by simp, by simp⟩
 ·exact ⟨_, _, rfl, Nat.le_trans h1 h2, h3⟩
theorem q_lenP {y : Opd} (hok : okQ P o.op (.lenP y) = true) (hf : Fr E s.fr a) (he : ev (.lenP y) s = some q) : Comes1 P o a E q := by
 simp only [okQ] at hok
 split at hok
 ·rename_i args ts ho
  simp only [Bool.and_eq_true] at hok
  obtain ⟨h1, h2⟩ := hok
  obtain ⟨x, hx, h3⟩ := okOpds1 (a := a) h1
  have hargs : args = #[x] := by cases args; simp_all
  subst hargs
  have g := get_sound h3 hf
  split at h2
  ·rename_i T hT
   have hts : ts = #[T] := by cases ts; simp_all
   subst hts
   have hrun : ∀ v w, (Builtin.len_ #[T] o.type #[a.eval x]).run P w = .ok v w → (execOp a.eval o).run P w = .ok (.value v) w := by
    intro v w hv
    obtain ⟨cs, hc⟩ := call_run (P := P) (a := a) ho (w := w)
    rw [hc]
    simp [builtin, hv]
   obtain ⟨e, hu⟩ := okKind_s h2
   simp only [ev] at he
   split at he
   ·rename_i hy
    cases he
    rw [hy] at g
    simp only [den] at g
    exact ⟨trivial, .int .i64 0, hrun _ _ (by simp [Builtin.len_, g, run_underlying hu, goInt]), by simp only [den]; exact ⟨trivial, by decide⟩⟩
   ·rename_i j m hy
    cases he
    rw [hy] at g
    simp only [den] at g
    obtain ⟨_, b, cap, _, hv, hm1, hm2⟩ := g
    have hm : m ≤ maxLen := Nat.le_trans hm1 hm2
    exact ⟨hm, .int .i64 m, hrun _ _ (by simp [Builtin.len_, hv, run_underlying hu, goInt]), by simp only [den]; exact ⟨trivial, len_in hm⟩⟩
   ·cases he
  ·cases h2
 ·cases hok
theorem q_len (h : HS s.hp E) {k : NK} {y : Opd} (hok : okQ P o.op (.len k y) = true) (hf : Fr E s.fr a) (he : ev (.len k y) s = some q) : Comes1 P o a E q := by
 simp only [okQ] at hok
 split at hok
 ·rename_i args ts ho
  simp only [Bool.and_eq_true] at hok
  obtain ⟨h1, h2⟩ := hok
  obtain ⟨x, hx, h3⟩ := okOpds1 (a := a) h1
  have hargs : args = #[x] := by cases args; simp_all
  subst hargs
  have g := get_sound h3 hf
  split at h2
  ·rename_i T hT
   have hts : ts = #[T] := by cases ts; simp_all
   subst hts
   have hrun : ∀ v w, (Builtin.len_ #[T] o.type #[a.eval x]).run P w = .ok v w → (execOp a.eval o).run P w = .ok (.value v) w := by
    intro v w hv
    obtain ⟨cs, hc⟩ := call_run (P := P) (a := a) ho (w := w)
    rw [hc]
    simp [builtin, hv]
   cases k with
   | i =>
    simp only [ev] at he
    split at he
    ·rename_i b hy
     cases he
     rw [hy] at g
     simp only [den] at g
     have hu := okKind_i h2
     exact ⟨g.2, .int .i64 b.size, hrun _ _ (by simp [Builtin.len_, g.1, run_underlying hu, goInt]), by simp only [den]; exact ⟨trivial, len_in g.2⟩⟩
    ·cases he
   | m =>
    obtain ⟨k, e, hu⟩ := okKind_m h2
    simp only [ev] at he
    split at he
    ·rename_i hy
     cases he
     rw [hy] at g
     simp only [den] at g
     exact ⟨trivial, .int .i64 0, hrun _ _ (by simp [Builtin.len_, g, run_underlying hu, goInt]), by simp only [den]; exact ⟨trivial, by decide⟩⟩
    ·rename_i i hy
     rw [hy] at g
     simp only [den] at g
     obtain ⟨_, b, hb, hv⟩ := g
     split at he
     ·rename_i va kt vt m hi
      cases he
      obtain ⟨b', es, clk, hb', hh, hm⟩ := h.ok i _ hi
      rw [hb] at hb'
      cases hb'
      have hlen : es.size = m.length := by
       have rdM_length : ∀ (m : List (kt.den × vt.den)) (es : List MapEntry), rdM E.w E.Fz va kt vt m es → es.length = m.length := by
        intro m
        induction m with
        | nil => intro es h; simp only [rdM] at h; simp [h]
        | cons x m ih => intro es h; obtain ⟨e, r, rfl, _, _, h3⟩ := h; simp [ih r h3]
       simpa using rdM_length _ _ hm.rd
      refine ⟨hm.len, .int .i64 m.length, hrun _ _ ?_, by simp only [den]; exact ⟨trivial, len_in hm.len⟩⟩
      simp [Builtin.len_, hv, run_underlying hu, getObj, Sem.run, hh, goInt, hlen]
     ·cases he
    ·cases he
   | s =>
    obtain ⟨e, hu⟩ := okKind_s h2
    have hsl : ∀ A (n : Nat) c, a.eval x = .slice A n c → (execOp a.eval o).run P E.w = .ok (.value (.int .i64 n)) E.w := fun A n c hv => hrun _ _ (by simp [Builtin.len_, hv, run_underlying hu, goInt])
    simp only [ev] at he
    split at he
    ·rename_i hy
     cases he
     rw [hy] at g
     simp only [den] at g
     exact ⟨trivial, .int .i64 0, hsl none 0 0 g, by simp only [den]; exact ⟨trivial, by decide⟩⟩
    ·split at he
     ·rename_i C hC
      cases he
      obtain ⟨A, c, hv, h3, h4⟩ := slr_val (cont_sound h g hC)
      exact ⟨⟨h3, h4⟩, .int .i64 C.xs.length, hsl A _ c hv, by simp only [den]; exact ⟨trivial, len_in h3⟩⟩
     ·cases he
   | p => simp only [ev] at he; cases he
   | f => simp only [ev] at he; cases he
  ·cases h2
 ·cases hok
theorem q_mm {mx : Bool} {y z : Opd} (hok : okQ P o.op (.mm mx y z) = true) (hf : Fr E s.fr a) (he : ev (.mm mx y z) s = some q) : Comes1 P o a E q := by
 simp only [okQ] at hok
 split at hok
 ·rename_i b args ts ho
  simp only [Bool.and_eq_true] at hok
  obtain ⟨h1, h2⟩ := hok
  obtain ⟨x, x', hx, h4, h3⟩ := okOpds2 (a := a) h1
  have hargs : args = #[x, x'] := by cases args; simp_all
  subst hargs
  have g := get_sound h4 hf
  have g2 := get_sound h3 hf
  simp only [ev] at he
  split at he
  ·rename_i k n hy
   split at he
   ·rename_i k' n' hz
    split at he <;> try cases he
    rename_i hk
    subst hk
    rw [hy] at g; rw [hz] at g2
    simp only [den] at g g2
    refine ⟨trivial, .int k (bif mx then (if n < n' then n' else n) else (if n' < n then n' else n)), ?_, ?_⟩
    ·obtain ⟨cs, hc⟩ := call_run (P := P) (a := a) ho (w := E.w)
     rw [hc]
     split at h2
     ·subst h2
      simp [builtin, Builtin.max_, g.1, g2.1, Builtin.max2]
     ·simp only [Bool.not_eq_true'] at h2; subst h2
      simp [builtin, Builtin.min_, g.1, g2.1, Builtin.min2]
     ·cases h2
    ·simp only [den]
     refine ⟨trivial, ?_⟩
     obtain ⟨_, h5, h6⟩ := g
     obtain ⟨_, h7, h8⟩ := g2
     cases mx <;> simp only [cond_true, cond_false] <;> split <;> exact ⟨by assumption, by assumption⟩
   ·cases he
  ·cases he
 ·cases hok
theorem bytes_rd {w : World} {F : Nat → Prop} : ∀ (xs : List UInt8) (cs : List Value), rdL (rd w F .byte) xs cs → cs = xs.map fun b => .int .u8 (b.toNat : Int)
 | [], cs, h => by simp only [rdL] at h; simp [h]
 | x :: xs, cs, h => by
  obtain ⟨c1, c2, rfl, h1, h2⟩ := h
  simp only [rd] at h1
  rw [h1, bytes_rd xs c2 h2]; rfl
theorem b2s_run {P : Program} {S D e : TypeId} (hs : P.underlying S = some (.slice e)) (he : P.underlying e = some (.int .u8)) (hd : P.underlying D = some .string) {w : World} {F : Nat → Prop} {eb : Nat} {xs : List UInt8} {v : Value}
  (h : slr w (rd w F .byte) eb (Ty.size .byte) xs v) : (convert S D v).run P w = .ok (.string ⟨xs.toArray⟩) w := by
 rcases h with ⟨rfl, A, c, rfl, _, _⟩ | ⟨b, off, cap, cur, T, fr, cs, rfl, _, hb, h1, h2, h3, h4, h5⟩
 ·cases A with
  | none => rw [run_convert_bytes_nil w S e hs he 0 c D hd]; rfl
  | some ad =>
   rw [run_convert_bytes_string w S D e _ _ _ hs he hd]
   simp [Conv.bytesToString, loadCells, loadCellsFrom]
   rfl
 ·have hcs := bytes_rd xs cs h5
  rw [run_convert_bytes_arg w S e hs he b off xs.length cap (xs.map fun x => (x.toNat : Int)) (by simp) ?_ D hd]
  ·congr 2
   simp [strOfNums, Function.comp_def]
  ·intro i hi
   have h6 : (cur.toList.drop off)[i]? = some (.int .u8 ((xs[i]'hi).toNat : Int)) := by
    have h7 := congrArg (fun l => l[i]?) h4
    simp only [Ty.size, Nat.mul_one, List.getElem?_take, if_pos hi] at h7
    rw [h7, hcs]
    simp [hi]
   rw [List.getElem?_drop] at h6
   simp [World.cell?, hb]
   rw [← Array.getElem?_toList, h6]
   simp [hi]
theorem q_b2s (h : HS s.hp E) {y : Opd} (hok : okQ P o.op (.b2s y) = true) (hf : Fr E s.fr a) (he : ev (.b2s y) s = some q) : Comes1 P o a E q := by
 cases ho : o.op <;> simp only [okQ, ho] at hok <;> first | cases hok | skip
 rename_i S D x
 simp only [Bool.and_eq_true] at hok
 obtain ⟨⟨h1, h2⟩, h3⟩ := hok
 have g := get_sound h1 hf
 have hd := okKind_i h2
 split at h3
 ·rename_i e hs
  split at h3
  ·rename_i hu
   simp only [ev] at he
   split at he
   ·rename_i hy
    cases he
    rw [hy] at g
    simp only [den] at g
    refine ⟨trivial, .string ByteArray.empty, ?_, by simp only [den]; exact ⟨trivial, by simp⟩⟩
    simp [execOp, ho, g, run_convert_bytes_nil E.w S e hs hu 0 0 D hd]
   ·split at he
    ·rename_i p eb xs hC
     cases he
     have hc := cont_sound h g hC
     obtain ⟨A, c, hv, h3, h4⟩ := slr_val hc
     refine ⟨trivial, .string ⟨(xs : List UInt8).toArray⟩, ?_, ?_⟩
     ·simp [execOp, ho, b2s_run hs hu hd hc]
     ·simp only [den]; exact ⟨trivial, by simpa [ByteArray.size] using h3⟩
    ·cases he
  ·cases h3
 ·cases h3
def keyV : (t : Ty) → t.den → Value
 | .int k, n => .int k n
 | .bool, b => .bool b
 | .str, s => .string s
 | _, _ => undef
structure KeyTy (P : Program) (K : TypeId) (t : Ty) (d : TypeDesc) : Prop where
 u : P.underlying K = some d
 rd : ∀ w F (x : t.den) (v : Value), rd w F t x [v] → v = keyV t x
 isKey : ∀ w F (x : t.den) (v : Value), Go.V.rd w F t x [v] → MapKept.IsKey d v
 beq : ∀ x y : t.den, t.beq x y = true ↔ x = y
 inj : ∀ x y : t.den, keyV t x = keyV t y → x = y
 keyOf : ∀ (E : En) (s : SV) (x : t.den) (v : Value), t.keyOf s = some x → den E s v → ∀ w F, Go.V.rd w F t x [v]
theorem okKey_sound {P : Program} {K : TypeId} {t : Ty} (h : okKey P K t = true) : ∃ d, KeyTy P K t d := by
 unfold okKey at h
 split at h
 ·rename_i k hu
  have := of_decide_eq_true h
  subst this
  refine ⟨_, hu, ?_, ?_, ?_, ?_, ?_⟩
  ·intro w F x v hx; simp only [Go.V.rd] at hx; simpa [keyV] using hx.1
  ·intro w F x v hx; simp only [Go.V.rd] at hx; have : v = .int k x := by simpa using hx.1
   subst this; simp [MapKept.IsKey]
  ·intro x y; simp [Ty.beq]
  ·intro x y hxy; simpa [keyV] using hxy
  ·intro E s x v hk hv w F
   cases s <;> simp only [Ty.keyOf] at hk <;> try cases hk
   split at hk <;> cases hk
   rename_i hkk; subst hkk
   simp only [den] at hv
   simp only [Go.V.rd]; exact ⟨by rw [hv.1], hv.2⟩
 ·rename_i hu
  have := of_decide_eq_true h
  subst this
  refine ⟨_, hu, ?_, ?_, ?_, ?_, ?_⟩
  ·intro w F x v hx; simp only [Go.V.rd] at hx; simpa [keyV] using hx.1
  ·intro w F x v hx; simp only [Go.V.rd] at hx; have : v = .string x := by simpa using hx.1
   subst this; simp [MapKept.IsKey]
  ·intro x y; simp [Ty.beq]
  ·intro x y hxy; simpa [keyV] using hxy
  ·intro E s x v hk hv w F
   cases s <;> simp only [Ty.keyOf] at hk <;> try cases hk
   simp only [den] at hv
   simp only [Go.V.rd]; exact ⟨by rw [hv.1], hv.2⟩
 ·rename_i hu
  have := of_decide_eq_true h
  subst this
  refine ⟨_, hu, ?_, ?_, ?_, ?_, ?_⟩
  ·intro w F x v hx; simp only [Go.V.rd] at hx; simpa [keyV] using hx
  ·intro w F x v hx; simp only [Go.V.rd] at hx; have : v = .bool x := by simpa using hx
   subst this; simp [MapKept.IsKey]
  ·intro x y; simp [Ty.beq]
  ·intro x y hxy; simpa [keyV] using hxy
  ·intro E s x v hk hv w F
   cases s <;> simp only [Ty.keyOf] at hk <;> try cases hk
   simp only [den] at hv
   simp only [Go.V.rd]; rw [hv]
 ·cases h
theorem rdM_length {w : World} {F : Nat → Prop} {va : Bool} {kt vt : Ty} : ∀ (m : List (kt.den × vt.den)) (es : List MapEntry), rdM w F va kt vt m es → es.length = m.length
 | [], es, h => by simp only [rdM] at h; simp [h]
 | x :: m, es, h => by obtain ⟨e, r, rfl, _, _, h3⟩ := h; simp [rdM_length m r h3]
theorem rdM_get {w : World} {F : Nat → Prop} {va : Bool} {kt vt : Ty} : ∀ (m : List (kt.den × vt.den)) (es : List MapEntry) (j : Nat) (e : MapEntry), rdM w F va kt vt m es → es[j]? = some e →
  ∃ x, m[j]? = some x ∧ rd w F kt x.1 [e.key] ∧ rdV w F va vt x.2 e.val
 | [], es, j, e, h, hj => by simp only [rdM] at h; subst h; simp at hj
 | x :: m, es, j, e, h, hj => by
  obtain ⟨e', r, rfl, h1, h2, h3⟩ := h
  cases j with
  | zero => simp at hj; subst hj; exact ⟨x, rfl, h1, h2⟩
  | succ j => simpa using rdM_get m r j e h3 (by simpa using hj)
theorem rdM_mem {w : World} {F : Nat → Prop} {va : Bool} {kt vt : Ty} : ∀ (m : List (kt.den × vt.den)) (es : List MapEntry) (x : kt.den × vt.den), rdM w F va kt vt m es → x ∈ m → ∃ e ∈ es, rd w F kt x.1 [e.key]
 | [], es, x, h, hj => by cases hj
 | y :: m, es, x, h, hj => by
  obtain ⟨e', r, rfl, h1, h2, h3⟩ := h
  rcases List.mem_cons.1 hj with rfl | hj
  ·exact ⟨e', by simp, h1⟩
  ·obtain ⟨e, he, h4⟩ := rdM_mem m r x h3 hj
   exact ⟨e, List.mem_cons_of_mem _ he, h4⟩
theorem rdM_mem' {w : World} {F : Nat → Prop} {va : Bool} {kt vt : Ty} : ∀ (m : List (kt.den × vt.den)) (es : List MapEntry) (e : MapEntry), rdM w F va kt vt m es → e ∈ es → ∃ x ∈ m, rd w F kt x.1 [e.key]
 | [], es, x, h, hj => by simp only [rdM] at h; subst h; cases hj
 | y :: m, es, x, h, hj => by
  obtain ⟨e', r, rfl, h1, h2, h3⟩ := h
  rcases List.mem_cons.1 hj with rfl | hj
  ·exact ⟨y, by simp, h1⟩
  ·obtain ⟨e, he, h4⟩ := rdM_mem' m r x h3 hj
   exact ⟨e, List.mem_cons_of_mem _ he, h4⟩
theorem find_spec {P : Program} {K : TypeId} {va : Bool} {kt vt : Ty} {d : TypeDesc} (hk : KeyTy P K kt d) {w : World} {F : Nat → Prop} {m : List (kt.den × vt.den)} {es : List MapEntry} (hm : rdM w F va kt vt m es) (hnd : (m.map Prod.fst).Nodup)
  {key : kt.den} {kv : Value} (hkv : rd w F kt key [kv]) :
  (Instr.findNow d kv es 0 = some none ∧ lookM kt vt m key = none ∧ (∀ x ∈ m, x.1 ≠ key)) ∨
  ∃ j e x, Instr.findNow d kv es 0 = some (some (j, e.val)) ∧ es[j]? = some e ∧ e.key = kv ∧ m[j]? = some x ∧ x.1 = key ∧ rdV w F va vt x.2 e.val ∧ lookM kt vt m key = some x.2 := by
 have hkeys : ∀ x ∈ es, MapKept.IsKey d x.key := fun e he => by
  obtain ⟨x, _, h⟩ := rdM_mem' m es e hm he
  exact hk.isKey _ _ _ _ h
 rcases MapKept.findNow_spec (hk.isKey _ _ _ _ hkv) es 0 hkeys with ⟨h1, h2⟩ | ⟨j, e, h1, h2, h3⟩
 ·have hne : ∀ x ∈ m, x.1 ≠ key := fun x hx he => by
   obtain ⟨e, hem, h4⟩ := rdM_mem m es x hm hx
   refine h2 e hem ?_
   rw [hk.rd _ _ _ _ h4, hk.rd _ _ _ _ hkv, he]
  refine .inl ⟨h1, ?_, hne⟩
  unfold lookM
  rw [List.find?_eq_none.2 (fun x hx => by
   intro hb
   exact hne x hx ((hk.beq _ _).1 hb))]
  rfl
 ·obtain ⟨x, h4, h5, h6⟩ := rdM_get m es j e hm h2
  have hx : x.1 = key := hk.inj _ _ (by rw [← hk.rd _ _ _ _ h5, ← hk.rd _ _ _ _ hkv, h3])
  refine .inr ⟨j, e, x, by simpa using h1, h2, h3, h4, hx, h6, ?_⟩
  unfold lookM
  cases hf : m.find? (fun e => kt.beq e.1 key) with
  | none =>
   have := List.find?_eq_none.1 hf x (List.mem_of_getElem? h4)
   rw [hx] at this
   exact absurd ((hk.beq key key).2 rfl) (by simpa using this)
  | some y =>
   have hy : y.1 = key := (hk.beq _ _).1 (by simpa using List.find?_some hf)
   have hym := List.mem_of_find?_eq_some hf
   obtain ⟨i, hi⟩ := List.getElem?_of_mem hym
   have e1 : (m.map Prod.fst)[i]? = some key := by rw [List.getElem?_map, hi]; simp [hy]
   have e2 : (m.map Prod.fst)[j]? = some key := by rw [List.getElem?_map, h4]; simp [hx]
   have hij : i = j := by
    obtain ⟨hi', hi2⟩ := List.getElem?_eq_some_iff.1 e1
    obtain ⟨hj', hj2⟩ := List.getElem?_eq_some_iff.1 e2
    exact (List.getElem_inj hnd).1 (hi2.trans hj2.symm)
   subst hij
   rw [h4] at hi
   cases hi
   rfl
theorem toV_sound {E : En} {va : Bool} {t : Ty} {x : t.den} {v : Value} {y : SV} (h : rdV E.w E.Fz va t x v) (hy : toV va true t x = some y) : den E y v := by
 cases va with
 | true =>
  simp only [toV] at hy
  cases hy
  obtain ⟨cs, rfl, hr⟩ := h
  simp only [den]
  exact ⟨cs, rfl, denC_sv true t x _ (rd_mono (fun b hb => .inl hb) (fun _ _ => rfl) t x _ hr)⟩
 | false =>
  simp only [toV] at hy
  split at hy
  ·rename_i z hz
   cases hy
   have := denC_sv (E := E) true t x _ (rd_mono (fun b hb => .inl hb) (fun _ _ => rfl) t x _ h)
   rw [hz] at this
   by_cases ha : y.isArr = true
   ·cases y <;> simp only [SV.isArr, Bool.false_eq_true] at ha
    exfalso
    have noArr : ∀ (p : Bool) (t : Ty) (x : t.den) (z : SV), z ∈ t.sv p x → z.isArr = false := by
     intro p t
     induction t with
     | pair a b iha ihb =>
      intro x z hz
      simp only [Ty.sv, List.mem_append] at hz
      exact hz.elim (iha _ _) (ihb _ _)
     | unit => intro x z hz; simp [Ty.sv] at hz
     | _ => intro x z hz; simp only [Ty.sv, List.mem_singleton] at hz; subst hz; rfl
    have := noArr true t x _ (by rw [hz]; exact List.mem_singleton.2 rfl)
    simp [SV.isArr] at this
   ·rw [denC_cons (by simpa using ha)] at this
    obtain ⟨v', c2, h1, h2, h3⟩ := this
    injection h1 with h1 h4
    subst h1
    exact h2
  ·cases hy
theorem okZero_sound {P : Program} {T : TypeId} {va : Bool} {t : Ty} (h : okZero P T va t = true) {w : World} {F : Nat → Prop} : ∃ v, (∀ w, (zeroValue T).run P w = .ok v w) ∧ rdV w F va t t.dflt v := by
 unfold okZero at h
 have zr : ∀ v, zeroOf P T = some v → ∀ w, (zeroValue T).run P w = .ok v w := by
  intro v hv w
  unfold zeroOf at hv
  cases hi : P.info? T with
  | none => rw [hi] at hv; cases hv
  | some i => rw [hi] at hv; simp at hv; simp [zeroValue, typeInfo, hi, hv]
 split at h
 ·rename_i cs hz
  simp only [Bool.and_eq_true] at h
  obtain ⟨h1, h2⟩ := h
  subst h1
  refine ⟨_, zr _ hz, cs, rfl, ?_⟩
  split at h2
  ·rename_i hc
   obtain ⟨c, h3, h4⟩ := cstRd_sound (w := w) (F := F) t _ _ _ hc
   rw [List.append_nil] at h3
   rw [h3]; exact h4
  ·cases h2
 ·rename_i v hnot hz
  simp only [Bool.and_eq_true, Bool.not_eq_true'] at h
  obtain ⟨h1, h2⟩ := h
  subst h1
  refine ⟨_, zr _ hz, ?_⟩
  split at h2
  ·rename_i hc
   obtain ⟨c, h3, h4⟩ := cstRd_sound (w := w) (F := F) t _ _ _ hc
   rw [List.append_nil] at h3
   simp only [rdV]
   rw [h3]; exact h4
  ·cases h2
 ·cases h
theorem q_lk (h : HS s.hp E) {va ok : Bool} {kt vt : Ty} {y k : Opd} (hok : okQ P o.op (.lk va kt vt ok y k) = true) (hf : Fr E s.fr a) (he : ev (.lk va kt vt ok y k) s = some q) : Comes1 P o a E q := by
  cases ho : o.op <;> simp only [okQ, ho] at hok <;> first | cases hok | skip
  rename_i T x i c
  simp only [Bool.and_eq_true, beq_iff_eq] at hok
  obtain ⟨⟨⟨h1, h2⟩, rfl⟩, h3⟩ := hok
  have g := get_sound h1 hf
  have g2 := get_sound h2 hf
  split at h3
  · rename_i K V hu
    simp only [Bool.and_eq_true] at h3
    obtain ⟨h3, h4⟩ := h3
    obtain ⟨d, hk⟩ := okKey_sound h3
    obtain ⟨z, hz, hzr⟩ := okZero_sound (w := E.w) (F := E.Fz) h4
    simp only [ev] at he
    split at he
    · rename_i hy
      rw [hy] at g
      simp only [den] at g
      split at he
      · rename_i key hkey
        split at he
        · rename_i y' hy'
          cases he
          have hkv := hk.keyOf E _ _ _ hkey g2 E.w E.Fz
          have hck := MapKept.run_checkKey (w := E.w) hk.u (hk.isKey _ _ _ _ hkv) true 9999
          have hfk : (Instr.findKey K (a.eval i) []).run P E.w = .ok none E.w := by
            rcases find_spec (w := E.w) (F := E.Fz) (va := va) (vt := vt) (m := []) (es := []) hk (by simp only [rdM]) (by simp) hkv with ⟨f1, f2, _⟩ | ⟨j', e, x', f1, f2, _⟩
            · exact MapKept.run_findKey (w := E.w) hk.u f1
            · simp at f2
          refine ⟨trivial, if c then .tuple #[z, .bool false] else z, ?_, ?_⟩
          · simp [execOp, ho, g, Instr.lookup, run_underlying hu, hck, hfk, hz]
          · have := toV_sound hzr hy'
            cases c
            · exact this
            · simp only [if_true, den, denL]
              exact ⟨_, rfl, _, _, rfl, this, _, _, rfl, rfl, rfl⟩
        · cases he
      · cases he
    · rename_i j hy
      rw [hy] at g
      simp only [den] at g
      obtain ⟨_, b, hb, hv⟩ := g
      split at he
      · rename_i va' kt' vt' m hj
        split at he
        · rename_i hty
          obtain ⟨rfl, rfl, rfl⟩ := hty
          split at he
          · rename_i key hkey
            split at he
            · rename_i y' hy'
              cases he
              obtain ⟨b', es, clk, hb', hh, hm⟩ := h.ok j _ hj
              rw [hb] at hb'
              cases hb'
              have hkv := hk.keyOf E _ _ _ hkey g2 E.w E.Fz
              have hck := MapKept.run_checkKey (w := E.w) hk.u (hk.isKey _ _ _ _ hkv) es.isEmpty 9999
              have hgo := MapKept.run_getObj_map (P := P) hh
              rcases find_spec hk hm.rd hm.nodup hkv with ⟨f1, f2, _⟩ | ⟨j', e, x', f1, f2, f3, f4, f5, f6, f7⟩
              · have hfk := MapKept.run_findKey (w := E.w) hk.u f1
                rw [f2] at hy'
                refine ⟨trivial, if c then .tuple #[z, .bool false] else z, ?_, ?_⟩
                · simp [execOp, ho, hv, Instr.lookup, run_underlying hu, hgo, hck, hfk, hz]
                · rw [f2]
                  have := toV_sound hzr hy'
                  cases c
                  · exact this
                  · simp only [if_true, den, denL, Option.isSome_none]
                    exact ⟨_, rfl, _, _, rfl, this, _, _, rfl, rfl, rfl⟩
              · have hfk := MapKept.run_findKey (w := E.w) hk.u f1
                rw [f7] at hy'
                refine ⟨trivial, if c then .tuple #[e.val, .bool true] else e.val, ?_, ?_⟩
                · simp [execOp, ho, hv, Instr.lookup, run_underlying hu, hgo, hck, hfk]
                · rw [f7]
                  have := toV_sound f6 hy'
                  cases c
                  · exact this
                  · simp only [if_true, den, denL, Option.isSome_some]
                    exact ⟨_, rfl, _, _, rfl, this, _, _, rfl, rfl, rfl⟩
            · cases he
          · cases he
        · cases he
      · cases he
    · cases he
  · cases h3
end quiet
end Go.V
namespace Go.V
set_option linter.unusedSimpArgs false
set_option linter.unnecessarySimpa false
set_option linter.unusedVariables false
theorem fill_fold (off : Nat) : ∀ (l : List Value) (k : Nat) (cells : Array Value), off + k + l.length ≤ cells.size →
  ((l.zipIdx k).foldl (fun (cs : Array Value) (x : Value × Nat) => cs.setIfInBounds (off + x.2) x.1) cells).toList = cells.toList.take (off + k) ++ (l ++ cells.toList.drop (off + k + l.length))
 | [], k, cells, h => by simp
 | v :: l, k, cells, h => by
  simp only [List.zipIdx_cons, List.foldl_cons]
  rw [fill_fold off l (k + 1) _ (by simp at h ⊢; omega)]
  have := list_seg_step cells.toList (off + k) v l (by simp at h ⊢; omega)
  simp only [Array.toList_setIfInBounds]
  simp only [List.append_assoc] at this
  rw [show off + (k + 1) = off + k + 1 by omega, this]
  simp [Nat.add_assoc]
section quiet
variable {P : Program} {o : Oper} {s : SS} {E : En} {a : Act} {q : QR}
theorem one_cell {x : SV} {v : Value} (hv : den E x v) (h : x.one = true) : v.oneCell' = true := by
 cases x <;> simp only [SV.one, Bool.false_eq_true] at h <;> simp only [den] at hv
 ·rw [hv.1]; rfl
 ·rw [hv]; rfl
 ·rw [hv.1]; rfl
 ·rcases hv with ⟨_, _, _, rfl, _⟩ | ⟨_, _, _, _, _, _, _, rfl, _⟩ <;> rfl
 ·rw [hv]; rfl
 ·rw [hv]; rfl
 ·rw [hv]; rfl
 ·rw [hv]; rfl
 ·rw [hv]; rfl
 ·obtain ⟨_, _, _, rfl⟩ := hv; rfl
 ·exact hv.2.2
 ·rcases hv.2.2 with ⟨_, _, _, _, rfl⟩ | ⟨b, o, l, c, _, _, ad, rfl, _⟩ <;> rfl
 ·obtain ⟨_, _, _, rfl⟩ := hv; rfl
 ·obtain ⟨_, _, _, _, _, _, rfl⟩ := hv; rfl
 ·obtain ⟨_, _, _, _, _, _, _, rfl⟩ := hv; rfl
 ·obtain ⟨_, _, _, rfl⟩ := hv; rfl
 ·obtain ⟨_, _, _, rfl, _⟩ := hv; rfl
 ·obtain ⟨_, _, _, _, rfl, _⟩ := hv; rfl
 ·obtain ⟨_, _, _, _, rfl, _⟩ := hv; rfl
 ·obtain ⟨_, rfl, _⟩ := hv; unfold fnV; split <;> rfl
 ·exact hv
theorem cells_one {v : Value} (h : v.oneCell' = true) : v.cells = #[v] := by cases v <;> simp [Value.oneCell'] at h <;> rfl
theorem one_noArr {x : SV} (h : x.one = true) : x.isArr = false := by cases x <;> simp [SV.one] at h <;> rfl
theorem denC_one {E : En} : ∀ (l : List SV) (cs : List Value), denC E l cs → (∀ x ∈ l, x.one = true ∨ x.isArr = true) → ∀ v ∈ cs, v.oneCell' = true := by
 have rdone : ∀ (w : World) (F : Nat → Prop) (t : Ty) (x : t.den) (c : List Value), rd w F t x c → ∀ v ∈ c, v.oneCell' = true := by
  intro w F t
  induction t with
  | pair a b iha ihb =>
   intro x c h v hv
   simp only [rd] at h
   obtain ⟨c1, c2, rfl, h1, h2⟩ := h
   rcases List.mem_append.1 hv with hv | hv
   ·exact iha _ _ h1 v hv
   ·exact ihb _ _ h2 v hv
  | int k => intro x c h v hv; simp only [rd] at h; rw [h.1] at hv; simp at hv; subst hv; rfl
  | byte => intro x c h v hv; simp only [rd] at h; rw [h] at hv; simp at hv; subst hv; rfl
  | bool => intro x c h v hv; simp only [rd] at h; rw [h] at hv; simp at hv; subst hv; rfl
  | str => intro x c h v hv; simp only [rd] at h; rw [h.1] at hv; simp at hv; subst hv; rfl
  | sl eb t _ =>
   intro x c h v hv
   simp only [rd] at h
   obtain ⟨v', rfl, h⟩ := h
   simp at hv; subst hv
   rcases h with ⟨_, _, _, rfl, _⟩ | ⟨_, _, _, _, _, _, _, rfl, _⟩ <;> rfl
  | unit => intro x c h v hv; simp only [rd] at h; subst h; cases hv
  | any1 => intro x c h v hv; simp only [rd] at h; obtain ⟨u, rfl, h⟩ := h; simp at hv; subst hv; exact h
 intro l
 induction l with
 | nil => intro cs h _ v hv; simp only [denC] at h; subst h; cases hv
 | cons x r ih =>
  intro cs h hx v hv
  by_cases ha : x.isArr = true
  ·cases x <;> simp only [SV.isArr, Bool.false_eq_true] at ha
   rename_i n t xs
   simp only [denC] at h
   obtain ⟨c1, c2, rfl, _, _, h4, h5⟩ := h
   rcases List.mem_append.1 hv with hv | hv
   ·have : ∀ (xs : List t.den) (c : List Value), rdL (rd E.w E.Fz t) xs c → ∀ v ∈ c, v.oneCell' = true := by
     intro xs
     induction xs with
     | nil => intro c h v hv; simp only [rdL] at h; subst h; cases hv
     | cons y ys ih2 =>
      intro c h v hv
      obtain ⟨d1, d2, rfl, h1, h2⟩ := h
      rcases List.mem_append.1 hv with hv | hv
      ·exact rdone _ _ _ _ _ h1 v hv
      ·exact ih2 _ h2 v hv
    exact this xs c1 h4 v hv
   ·exact ih c2 h5 (fun y hy => hx y (List.mem_cons_of_mem _ hy)) v hv
  ·have ha' : x.isArr = false := by simpa using ha
   rw [denC_cons ha'] at h
   obtain ⟨v', c2, rfl, h2, h3⟩ := h
   rcases List.mem_cons.1 hv with rfl | hv
   ·exact one_cell h2 ((hx x (by simp)).resolve_right ha)
   ·exact ih c2 h3 (fun y hy => hx y (List.mem_cons_of_mem _ hy)) v hv
theorem flat_cells {x : SV} {v : Value} {l : List SV} (hv : den E x v) (h : flatS x = some l) : denC E l v.cells.toList := by
 by_cases ha : ∃ l', x = .agg l'
 ·obtain ⟨l', rfl⟩ := ha
  simp only [flatS] at h
  cases h
  simp only [den] at hv
  obtain ⟨cs, rfl, hc⟩ := hv
  exact hc
 ·have h' : x.one = true ∧ l = [x] := by
   cases x <;> simp only [flatS] at h <;> first | (split at h <;> first | (rename_i ho; cases h; exact ⟨ho, rfl⟩) | cases h) | exact absurd ⟨_, rfl⟩ ha
  obtain ⟨h1, rfl⟩ := h'
  rw [cells_one (one_cell hv h1), denC_cons (one_noArr h1)]
  exact ⟨v, [], rfl, hv, by simp only [denC]⟩
theorem fill_sound (hf : Fr E s.fr a) {pl : List (Nat × Nat)} {gp : Nat → Option (Nat × Nat)} (hgp : ∀ f x, pl[f]? = some x → gp f = some x) : ∀ (parts : List (Nat × Operand)) (ps : List (Nat × Nat × Opd)) (l l' : List SV) (cells : Array Value), okParts pl parts ps = true → denC E l cells.toList → bldC s l ps = some l' →
  ∃ cs, Instr.fill gp cells (parts.map fun x => (x.1, a.eval x.2)) = some cs ∧ denC E l' cs.toList
 | [], [], l, l', cells, hok, hc, hb => by simp only [bldC] at hb; cases hb; exact ⟨cells, rfl, hc⟩
 | [], _ :: _, l, l', cells, hok, hc, hb => by simp [okParts] at hok
 | _ :: _, [], l, l', cells, hok, hc, hb => by simp [okParts] at hok
 | (f, x) :: r, (off, n, y) :: r', l, l', cells, hok, hc, hb => by
  simp only [okParts, Bool.and_eq_true, beq_iff_eq] at hok
  obtain ⟨⟨h1, h2⟩, h3⟩ := hok
  simp only [bldC] at hb
  split at hb
  ·cases hb
  ·rename_i new hnew
   split at hb
   ·rename_i hw
    split at hb
    ·rename_i l2 hs
     have hv := flat_cells (get_sound h2 hf) hnew
     obtain ⟨h4, h5⟩ := denC_spl hc hv hs
     have hlen : (a.eval x).cells.size = n := by rw [← hw, ← denC_width _ _ hv]; simp
     have hfit : off + (a.eval x).cells.size ≤ cells.size := by simpa using h5
     have hfold : ((a.eval x).cells.zipIdx.foldl (fun (cs : Array Value) (x : Value × Nat) => cs.setIfInBounds (off + x.2) x.1) cells).toList = cells.toList.take off ++ ((a.eval x).cells.toList ++ cells.toList.drop (off + (a.eval x).cells.toList.length)) := by
      have := fill_fold off (a.eval x).cells.toList 0 cells (by simpa using hfit)
      rw [← Array.foldl_toList, Array.toList_zipIdx]
      simpa using this
     obtain ⟨cs, h6, h7⟩ := fill_sound hf hgp r r' l2 l' _ h3 (by rw [hfold]; exact h4) hb
     refine ⟨cs, ?_, h7⟩
     simp only [List.map_cons, Instr.fill, hgp _ _ h1]
     rw [if_neg (by simp only [ne_eq, Bool.or_eq_true, decide_eq_true_eq, not_or, Decidable.not_not]; exact ⟨hlen, by simpa using hfit⟩)]
     exact h6
    ·cases hb
   ·cases hb
theorem q_bld {zs : List SV} {ps : List (Nat × Nat × Opd)} (hok : okQ P o.op (.bld zs ps) = true) (hf : Fr E s.fr a) (he : ev (.bld zs ps) s = some q) : Comes1 P o a E q := by
 cases ho : o.op <;> simp only [okQ, ho] at hok <;> first | cases hok | skip
 rename_i T parts
 simp only [Bool.and_eq_true] at hok
 obtain ⟨h1, h2⟩ := hok
 split at h1
 ·rename_i pl hpl
  split at h2
  ·rename_i z hz
   simp only [ev] at he
   cases hb : bldC s zs ps with
   | none => rw [hb] at he; cases he
   | some l =>
    rw [hb] at he
    cases he
    obtain ⟨cs, h3, h4⟩ := fill_sound (a := a) hf (gp := fun x => pl[x]?) (fun _ _ h => h) _ _ _ _ z.cells h1 (cstC_sound _ _ h2) hb
    refine ⟨trivial, .agg cs, ?_, by simp only [den]; exact ⟨cs, rfl, h4⟩⟩
    have hbuilt : P.built T (parts.map fun (x : Nat × Operand) => (x.1, a.eval x.2)).toList = some cs := by
     unfold Program.built
     unfold zeroOf at hz
     unfold placesOf at hpl
     cases hi : P.info? T with
     | none => rw [hi] at hz; cases hz
     | some it =>
      rw [hi] at hz
      simp only [Option.bind_some] at hz
      split at hpl
      ·rename_i fs hu
       simp only [hu, hz, hpl]
       simpa using h3
      ·cases hpl
    have hrun : (Instr.build T (parts.map fun (i, x) => (i, a.eval x))).run P E.w = .ok (.agg cs) E.w := run_build E.w T _ cs hbuilt
    simp only [execOp, ho, Sem.run_bind, hrun, Result.andThen_ok]
    rfl
  ·cases h2
 ·cases h1
theorem q_bldA {zs : List SV} {n : Nat} {t : Ty} {ps : List (Nat × Nat × Opd)} (hok : okQ P o.op (.bldA zs n t ps) = true) (hf : Fr E s.fr a) (he : ev (.bldA zs n t ps) s = some q) : Comes1 P o a E q := by
 cases ho : o.op <;> simp only [okQ, ho] at hok <;> first | cases hok | skip
 rename_i T parts
 simp only [Bool.and_eq_true] at hok
 obtain ⟨h1, h2⟩ := hok
 split at h1
 ·rename_i m e hu
  split at h1
  ·rename_i sz hsz
   split at h2
   ·rename_i z hz
    simp only [ev, arrO] at he
    cases hb : bldC s zs ps with
    | none => rw [hb] at he; cases he
    | some l =>
     rw [hb] at he
     simp only at he
     cases hl : t.ofSvL n l with
     | none => rw [hl] at he; cases he
     | some xs =>
      rw [hl] at he
      simp only at he
      split at he
      ·rename_i hfl
       cases he
       obtain ⟨cs, h3, h4⟩ := fill_sound (a := a) hf (gp := fun i => some (i * sz, sz)) (fun f x h => by
        rw [List.getElem?_map] at h
        cases hr : (List.range n)[f]? with
        | none => rw [hr] at h; cases h
        | some k =>
         rw [hr] at h
         obtain ⟨h9, h10⟩ := List.getElem?_eq_some_iff.1 hr
         rw [List.getElem_range] at h10
         subst h10
         simpa using h) _ _ _ _ z.cells h1 (cstC_sound _ _ h2) hb
       obtain ⟨h5, h6⟩ := ofSvL_sound t n l xs _ hl h4
       refine ⟨trivial, .agg cs, ?_, ?_⟩
       ·have hbuilt : P.built T (parts.map fun (x : Nat × Operand) => (x.1, a.eval x.2)).toList = some cs := by
         unfold Program.built
         unfold zeroOf at hz
         unfold szOf at hsz
         cases hi : P.info? T with
         | none => rw [hi] at hz; cases hz
         | some it =>
          rw [hi] at hz
          simp only [Option.bind_some] at hz
          cases hie : P.info? e with
          | none => rw [hie] at hsz; cases hsz
          | some ie =>
           rw [hie] at hsz
           simp only [Option.map_some, Option.some.injEq] at hsz
           subst hsz
           simp only [hu, hz, hie]
           simpa using h3
        have hrun : (Instr.build T (parts.map fun (i, x) => (i, a.eval x))).run P E.w = .ok (.agg cs) E.w := run_build E.w T _ cs hbuilt
        simp only [execOp, ho, Sem.run_bind, hrun, Result.andThen_ok]
        rfl
       ·simp only [den]
        refine ⟨cs, rfl, ?_⟩
        simp only [denC]
        exact ⟨cs.toList, [], by simp, h5, hfl, h6, rfl⟩
      ·cases he
   ·cases h2
  ·cases h1
 ·cases h1
theorem q_ixA {len : Nat} {y j : Opd} (hok : okQ P o.op (.ixA len y j) = true) (hf : Fr E s.fr a) (he : ev (.ixA len y j) s = some q) (hn : q.need) : Comes1 P o a E q := by
 cases ho : o.op <;> simp only [okQ, ho] at hok <;> first | cases hok | skip
 rename_i T x i
 simp only [Bool.and_eq_true] at hok
 obtain ⟨⟨h1, h2⟩, h3⟩ := hok
 have g := get_sound h1 hf
 have g2 := get_sound h2 hf
 split at h3
 ·rename_i m e hu
  simp only [Bool.and_eq_true, beq_iff_eq] at h3
  obtain ⟨⟨rfl, h4⟩, h5⟩ := h3
  simp only [ev, ixAV] at he
  split at he
  ·rename_i k n hj
   rw [hj] at g2
   split at he
   ·rename_i m' t xs hx
    rw [hx] at g
    split at he
    ·rename_i hc
     obtain ⟨rfl, ht1⟩ := hc
     cases hh : headC (t.sv true (xs.getD n.toNat t.dflt)) with
     | none => rw [hh] at he; cases he
     | some v' =>
      rw [hh] at he
      cases he
      simp only [den, denC] at g g2
      simp only at hn
      obtain ⟨cs, hcs, c1, c2, h6, h7, h8, h9, h10⟩ := g
      subst h10
      rw [List.append_nil] at h6
      have hlt : n.toNat < xs.length := by omega
      have hxe : xs[n.toNat]? = some (xs.getD n.toNat t.dflt) := by
       rw [List.getD_eq_getElem?_getD, List.getElem?_eq_getElem hlt]; rfl
      obtain ⟨c, h11, h12⟩ := rdL_get (rd_length t) _ xs c1 _ h9 hxe
      have hsv := denC_sv true t _ _ (rd_mono (F' := E.F true) (fun b hb => .inl hb) (fun _ _ => rfl) t _ c h11)
      obtain ⟨v, c3, h13, h14⟩ := denC_head hsv hh
      have hget : cs[n.toNat]? = some v := by
       rw [← Array.getElem?_toList, h6]
       have := congrArg (fun l => l[0]?) h12
       rw [ht1, h13] at this
       simpa using this
      refine ⟨trivial, v, ?_, h14⟩
      simp [execOp, ho, hcs, g2.1, Instr.index, asIntOf, run_underlying hu, hn.1, hn.2, part, isAgg_run h5, szOf_run h4, hget]
    ·cases he
   ·cases he
  ·cases he
 ·cases h3
theorem q_mkf {f : Nat} {caps : List Opd} (hok : okQ P o.op (.mkf f caps) = true) (hf : Fr E s.fr a) (he : ev (.mkf f caps) s = some q) : Comes1 P o a E q := by
 simp only [okQ] at hok
 split at hok
 ·rename_i g first cs ho
  split at hok
  ·rename_i hlt
   simp only [Bool.and_eq_true, beq_iff_eq] at hok
   obtain ⟨⟨rfl, h1⟩, h2⟩ := hok
   have h1' : first = #[] := by simpa using h1
   subst h1'
   simp only [ev] at he
   cases he
   refine ⟨trivial, .func (.func g) #[] (cs.map a.eval), by simp [execOp, ho, Instr.makeFunc], ?_⟩
   simp only [den]
   exact ⟨cs.map a.eval, by unfold fnV; rw [if_pos hlt], by simpa using okOpds_sound hf _ _ h2⟩
  ·rename_i hlt
   simp only [Bool.and_eq_true, beq_iff_eq] at hok
   obtain ⟨⟨hg, h1⟩, h2⟩ := hok
   subst hg
   have h1' : cs = #[] := by simpa using h1
   subst h1'
   simp only [ev] at he
   cases he
   refine ⟨trivial, .func (.func (f % 1000000)) (first.map a.eval) #[], by simp [execOp, ho, Instr.makeFunc], ?_⟩
   simp only [den]
   exact ⟨first.map a.eval, by unfold fnV; rw [if_neg hlt], by simpa using okOpds_sound hf _ _ h2⟩
 ·cases hok
theorem bound_sound (hf : Fr E s.fr a) {d : Int} {l : Option Operand} {lo : Option Opd} {n : Int} (hok : okOpdO l lo = true) (hb : bound s d lo = some n) :
  (lo = none ∧ l = none ∧ n = d) ∨ ∃ x k, l = some x ∧ a.eval x = .int k n := by
 cases lo with
 | none => cases l <;> simp [okOpdO] at hok; simp only [bound] at hb; cases hb; exact .inl ⟨rfl, rfl, rfl⟩
 | some y =>
  cases l with
  | none => simp [okOpdO] at hok
  | some x =>
   simp only [okOpdO] at hok
   simp only [bound] at hb
   split at hb
   ·rename_i k m hy
    cases hb
    have g := get_sound hok hf
    rw [hy] at g
    simp only [den] at g
    exact .inr ⟨x, k, rfl, g.1⟩
   ·cases hb
theorem bounds_run {P : Program} {w : World} {isS : Bool} {n cp : Nat} {l h : Option Operand} {l0 h0 : Int} (hl : (l = none ∧ l0 = 0) ∨ ∃ x k, l = some x ∧ a.eval x = .int k l0) (hh : (h = none ∧ h0 = n) ∨ ∃ x k, h = some x ∧ a.eval x = .int k h0)
  (h1 : 0 ≤ l0) (h2 : l0 ≤ h0) (h3 : h0 ≤ n) (h4 : n ≤ cp) :
  (Instr.sliceBounds isS n cp (l.map a.eval) (h.map a.eval) none).run P w = .ok (l0.toNat, h0.toNat, cp) w := by
 have e1 : h0 ≤ (cp : Int) := by omega
 have e2 : 0 ≤ h0 := by omega
 rcases hl with ⟨rfl, rfl⟩ | ⟨x, k, rfl, hx⟩ <;> rcases hh with ⟨rfl, rfl⟩ | ⟨x', k', rfl, hx'⟩
 ·simp [Instr.sliceBounds]
 ·simp [Instr.sliceBounds, Instr.sliceBound, hx', asIntOf, e1, e2]
 ·have : l0 ≤ (n : Int) := by omega
  simp [Instr.sliceBounds, Instr.sliceBound, hx, asIntOf, h1, this]
 ·have : l0 ≤ (h0.toNat : Int) := by omega
  simp [Instr.sliceBounds, Instr.sliceBound, hx, hx', asIntOf, e1, e2, h1]
  intro hc; omega
theorem q_slS {y : Opd} {lo hi : Option Opd} (hok : okQ P o.op (.slS y lo hi) = true) (hf : Fr E s.fr a) (he : ev (.slS y lo hi) s = some q) (hn : q.need) : Comes1 P o a E q := by
 cases ho : o.op <;> simp only [okQ, ho] at hok <;> first | cases hok | skip
 rename_i T x l h m
 simp only [Bool.and_eq_true] at hok
 obtain ⟨⟨⟨⟨h1, h2⟩, h3⟩, h4⟩, h5⟩ := hok
 have hm : m = none := by simpa using h4
 subst hm
 have hu := okKind_i h5
 have g := get_sound h1 hf
 simp only [ev] at he
 split at he
 ·rename_i b hy
  rw [hy] at g
  simp only [den] at g
  split at he
  ·rename_i l0 h0 hl hh
   cases he
   simp only at hn
   have b1 := (bound_sound hf h2 hl).imp (fun h => And.intro h.2.1 h.2.2) id
   have b2 := (bound_sound hf h3 hh).imp (fun h => And.intro h.2.1 h.2.2) id
   have hr := bounds_run (P := P) (w := E.w) (isS := false) (cp := b.size) b1 b2 hn.1 hn.2.1 hn.2.2 (Nat.le_refl _)
   refine ⟨trivial, .string (b.extract l0.toNat h0.toNat), ?_, ?_⟩
   ·simp [execOp, ho, g.1, Instr.sliceAt, Instr.slice, run_underlying hu, hr]
   ·simp only [den]
    refine ⟨trivial, ?_⟩
    have : (b.extract l0.toNat h0.toNat).size ≤ b.size := by simp [ByteArray.size_extract]; omega
    exact Nat.le_trans this g.2
  ·cases he
 ·cases he
theorem slice_run {T e sz : Nat} (hu : P.underlying T = some (.slice e)) (hs : szOf P e = some sz) {x : Operand} {l h : Option Operand} {A : Option Addr} {n cp : Nat} {l0 h0 : Int} (hx : a.eval x = .slice A n cp)
  (hl : (l = none ∧ l0 = 0) ∨ ∃ x k, l = some x ∧ a.eval x = .int k l0) (hh : (h = none ∧ h0 = n) ∨ ∃ x k, h = some x ∧ a.eval x = .int k h0) (h1 : 0 ≤ l0) (h2 : l0 ≤ h0) (h3 : h0 ≤ n) (h4 : n ≤ cp) (ho : o.op = .slice T x l h none) {w : World} :
  (execOp a.eval o).run P w = .ok (.value (.slice (if cp = l0.toNat then A else A.map (·.add (l0.toNat * sz))) (h0.toNat - l0.toNat) (cp - l0.toNat))) w := by
 have hr := bounds_run (P := P) (w := w) (isS := true) (cp := cp) hl hh h1 h2 h3 h4
 simp [execOp, ho, hx, Instr.sliceAt, Instr.slice, run_underlying hu, hr, szOf_run hs]
theorem slr_cap {α : Type} {w : World} {F : Nat → Prop} {R : α → List Value → Prop} {eb sz : Nat} {xs : List α} {A : Option Addr} {n c : Nat} (h : slv w F R eb sz xs (.slice A n c)) : n = xs.length ∧ n ≤ c := by
 rcases h with ⟨rfl, A', c', he, _⟩ | ⟨b, off, cap, cur, T, fr, cs, he, _, _, h1, _⟩
 ·injection he with _ e2 e3; subst e2; simp
 ·injection he with _ e2 e3; subst e2; subst e3; exact ⟨rfl, h1⟩
theorem q_slR (h : HS s.hp E) {sz : Nat} {y : Opd} {lo hi : Option Opd} (hok : okQ P o.op (.slR sz y lo hi) = true) (hf : Fr E s.fr a) (he : ev (.slR sz y lo hi) s = some q) (hn : q.need) : Comes1 P o a E q := by
 cases ho : o.op <;> simp only [okQ, ho] at hok <;> first | cases hok | skip
 rename_i T x l hh m
 simp only [Bool.and_eq_true] at hok
 obtain ⟨⟨⟨⟨h1, h2⟩, h3⟩, h4⟩, h5⟩ := hok
 have hm : m = none := by simpa using h4
 subst hm
 have g := get_sound h1 hf
 split at h5
 ·rename_i e hu
  have hsz := beq_iff_eq.1 h5
  simp only [ev] at he
  split at he
  ·rename_i hy
   rw [hy] at g
   simp only [den] at g
   split at he
   ·rename_i l0 h0 hl hhi
    cases he
    simp only at hn
    obtain ⟨rfl, rfl⟩ := hn
    have b1 := (bound_sound hf h2 hl).imp (fun h => And.intro h.2.1 h.2.2) id
    have b2 := (bound_sound hf h3 hhi).imp (fun h => And.intro h.2.1 h.2.2) id
    refine ⟨trivial, .slice none 0 0, ?_, by simp only [den]⟩
    have := slice_run (o := o) (w := E.w) hu hsz g b1 (h0 := 0) (by simpa using b2) (by omega) (by omega) (by omega) (by omega) ho
    simpa using this
   ·cases he
  ·rename_i p eb t xs hy
   rw [hy] at g
   split at he
   ·rename_i hszt
    split at he
    ·rename_i l0 h0 hl hhi
     cases he
     simp only at hn
     simp only [den] at g
     have b1 := (bound_sound hf h2 hl).imp (fun h => And.intro h.2.1 h.2.2) id
     have b2 := (bound_sound hf h3 hhi).imp (fun h => And.intro h.2.1 h.2.2) id
     obtain ⟨A, c, hv⟩ : ∃ A c, a.eval x = .slice A xs.length c := by
      rcases g with ⟨hx, A, c, hv, _⟩ | ⟨b, off, cap, cur, T, fr, cs, hv, _⟩
      ·exact ⟨A, c, by rw [hv, hx]; rfl⟩
      ·exact ⟨_, _, hv⟩
     have hcap : xs.length ≤ c := by have := slr_cap (hv ▸ g); exact this.2
     refine ⟨trivial, _, slice_run (o := o) (w := E.w) hu hsz hv b1 b2 hn.1 hn.2.1 hn.2.2 hcap ho, ?_⟩
     simp only [den]
     rcases g with ⟨hx, A', c', hv', hc', ha'⟩ | ⟨b, off, cap, cur, T, fr, cs, hv', hr⟩
     ·have : h0.toNat - l0.toNat = 0 := by have := hn.2.2; rw [hx] at this; simp at this; omega
      refine .inl ⟨by rw [hx]; simp, _, _, by rw [this], ?_, ?_⟩
      ·rw [hv] at hv'; injection hv' with _ _ e3; omega
      ·intro hnone
       rw [hv] at hv'; injection hv' with e1 _ e3
       split at hnone
       ·subst e3; omega
       ·rw [e1] at hnone
        cases A' with
        | none => have := ha' rfl; omega
        | some _ => cases hnone
     ·rw [hv] at hv'
      injection hv' with e1 _ e3
      subst e3
      rw [e1]
      have hl' : l0.toNat ≤ h0.toNat := by omega
      have hh' : h0.toNat ≤ xs.length := by omega
      have hadd : (⟨b, off, none⟩ : Addr).add (l0.toNat * sz) = ⟨b, off + l0.toNat * sz, none⟩ := by unfold Addr.add; split <;> simp_all
      have e2 : (if c = l0.toNat then some (⟨b, off, none⟩ : Addr) else (some (⟨b, off, none⟩ : Addr)).map (·.add (l0.toNat * sz))) = some (if c = l0.toNat then ⟨b, off, none⟩ else ⟨b, off + l0.toNat * sz, none⟩) := by
       simp only [Option.map_some, hadd]; split <;> rfl
      rw [e2]
      exact slr_part (rd_length t) (F := E.F p) (eb := eb) (b := b) (o := off) (l := xs.length) (c := c) (lo := l0.toNat) (hi := h0.toNat) (.inr ⟨b, off, c, cur, T, fr, cs, rfl, hr⟩) hl' hh' (fun hne => by rw [if_neg hne, hszt])
    ·cases he
   ·cases he
  ·rename_i j hy
   rw [hy] at g
   split at he
   ·rename_i mv eb t xs hj
    split at he
    ·rename_i l0 h0 hl hhi
     split at he
     ·rename_i hszt
      cases he
      simp only at hn
      simp only [den] at g
      have b1 := (bound_sound hf h2 hl).imp (fun h => And.intro h.2.1 h.2.2) id
      have b2 := (bound_sound hf h3 hhi).imp (fun h => And.intro h.2.1 h.2.2) id
      obtain ⟨hlt, hv, _⟩ := g
      rcases h.ok j _ hj with ⟨⟨ad, hval⟩, _, hx⟩ | ⟨b, off, cap, cur, T', fr, cs, hval, hb, hh', hz, hle, hr⟩
      ·rw [hval] at hv
       have hx0 : xs.length = 0 := by rw [hx]; rfl
       have e0 : l0 = 0 ∧ h0 = 0 := by omega
       refine ⟨trivial, _, slice_run (o := o) (w := E.w) (n := 0) (cp := 0) hu hsz hv b1 (by rw [hx0] at b2; exact b2) hn.1 hn.2.1 (by omega) (Nat.le_refl _) ho, ?_⟩
       simp only [den]
       obtain ⟨rfl, rfl⟩ := e0
       exact ⟨hlt, by simp, .inl ⟨rfl, rfl, ad, hval, by simp⟩⟩
      ·rw [hval] at hv
       refine ⟨trivial, _, slice_run (o := o) (w := E.w) hu hsz hv b1 b2 hn.1 hn.2.1 hn.2.2 hle ho, ?_⟩
       simp only [den]
       have hadd : (⟨b, off, none⟩ : Addr).add (l0.toNat * sz) = ⟨b, off + l0.toNat * sz, none⟩ := by unfold Addr.add; split <;> simp_all
       have e2 : (if cap = l0.toNat then some (⟨b, off, none⟩ : Addr) else (some (⟨b, off, none⟩ : Addr)).map (·.add (l0.toNat * sz))) = some (if cap = l0.toNat then ⟨b, off, none⟩ else ⟨b, off + l0.toNat * sz, none⟩) := by
        simp only [Option.map_some, hadd]; split <;> rfl
       exact ⟨hlt, by omega, .inr ⟨b, off, xs.length, cap, hval, by omega, _, by rw [e2], fun hne => by rw [if_neg hne]⟩⟩
     ·cases he
    ·cases he
   ·cases he
  ·rename_i j a' b' sz' hy
   rw [hy] at g
   split at he
   ·rename_i mv eb t xs hj
    split at he
    ·rename_i l0 h0 hl hhi
     split at he
     ·rename_i hszt
      cases he
      simp only at hn
      simp only [den] at g
      have b1 := (bound_sound hf h2 hl).imp (fun h => And.intro h.2.1 h.2.2) id
      have b2 := (bound_sound hf h3 hhi).imp (fun h => And.intro h.2.1 h.2.2) id
      obtain ⟨hlt, hle, g⟩ := g
      rcases g with ⟨rfl, rfl, ad, hval, hv⟩ | ⟨b, off, n, c, hval, hbn, ad, hv, had⟩
      ·have e0 : l0 = 0 ∧ h0 = 0 := by simp at hn; omega
       refine ⟨trivial, _, slice_run (o := o) (w := E.w) (n := 0) (cp := 0) hu hsz hv b1 (by simpa using b2) hn.1 hn.2.1 (by simpa using hn.2.2) (Nat.le_refl _) ho, ?_⟩
       simp only [den]
       obtain ⟨rfl, rfl⟩ := e0
       exact ⟨hlt, by simp, .inl ⟨rfl, rfl, ad, hval, by simp⟩⟩
      ·have hcap : n ≤ c := by
        rcases h.ok j _ hj with ⟨⟨ad', hval'⟩, _, _⟩ | ⟨b2', off', cap, cur, T', fr, cs, hval', _, _, _, hle', _⟩
        ·rw [hval] at hval'; injection hval' with _ e2 e3; omega
        ·rw [hval] at hval'; injection hval' with _ e2 e3; omega
       refine ⟨trivial, _, slice_run (o := o) (w := E.w) hu hsz hv b1 b2 hn.1 hn.2.1 hn.2.2 (by omega) ho, ?_⟩
       simp only [den]
       refine ⟨hlt, by omega, .inr ⟨b, off, n, c, hval, by omega, if c - a' = l0.toNat then ad else ad.add (l0.toNat * sz), ?_, ?_⟩⟩
       ·have e1 : a' + h0.toNat - (a' + l0.toNat) = h0.toNat - l0.toNat := by omega
        have e2 : c - (a' + l0.toNat) = c - a' - l0.toNat := by omega
        rw [e1, e2]
        congr 1
        split <;> rfl
       ·intro hne
        have hne' : ¬ (c - a' = l0.toNat) := by omega
        rw [if_neg hne', had (by omega)]
        have hadd : (⟨b, off + a' * sz', none⟩ : Addr).add (l0.toNat * sz) = ⟨b, off + a' * sz' + l0.toNat * sz, none⟩ := by unfold Addr.add; split <;> simp_all
        rw [hadd, hszt.1, Nat.add_mul, Nat.add_assoc]
     ·cases he
    ·cases he
   ·cases he
  ·cases he
 ·cases h5
theorem ev_sound {ao : AOp} (hok : okQ P o.op ao = true) (h : HS s.hp E) (hf : Fr E s.fr a) (he : ev ao s = some q) (hn : q.need) : Comes1 P o a E q := by
 cases ao with
 | mv _ => exact q_mv hok hf he
 | pick _ _ _ => exact q_pick hok hf he
 | nck _ => exact q_nck hok hf he
 | fld _ _ _ => exact q_fld hok hf he
 | fa _ _ => exact q_fa hok hf he
 | ia _ _ _ => exact q_ia h hok hf he hn
 | iaP _ _ => exact q_iaP hok hf he hn
 | lenP _ => exact q_lenP hok hf he
 | iaA _ _ _ _ => exact q_iaA hok hf he hn
 | ixS _ _ => exact q_ixS hok hf he hn
 | ixA _ _ _ => exact q_ixA hok hf he hn
 | ld _ => exact q_ld h hok hf he hn
 | ldA _ _ => exact q_ldA h hok hf he hn
 | bin _ _ _ => exact q_bin hok hf he hn
 | binB _ _ _ => exact q_binB hok hf he
 | eqS _ _ _ _ => exact q_eqS hok hf he
 | eqR _ _ _ _ => exact q_eqR hok hf he
 | eqn _ _ _ _ => exact q_eqn hok hf he
 | not _ => exact q_not hok hf he
 | neg _ => exact q_neg hok hf he
 | cv _ _ => exact q_cv hok hf he
 | cvS _ => exact q_cvS hok hf he
 | b2s _ => exact q_b2s h hok hf he
 | ext _ _ => exact q_ext hok hf he
 | len _ _ => exact q_len h hok hf he
 | mm _ _ _ => exact q_mm hok hf he
 | lk _ _ _ _ _ _ => exact q_lk h hok hf he
 | bld _ _ => exact q_bld hok hf he
 | bldA _ _ _ _ => exact q_bldA hok hf he
 | mkf _ _ => exact q_mkf hok hf he
 | slS _ _ _ => exact q_slS hok hf he hn
 | slR _ _ _ _ => exact q_slR h hok hf he hn
 | _ => simp only [okQ] at hok; cases hok
end quiet
end Go.V
namespace Go.V
set_option linter.unusedSimpArgs false
set_option linter.unnecessarySimpa false
set_option linter.unusedVariables false
def upF : List (Nat × SV) → Nat → SV → List (Nat × SV)
 | [], n, v => [(n, v)]
 | (k, x) :: r, n, v => bif k == n then (k, v) :: r else (k, x) :: upF r n v
def SS.put (s : SS) (d : Option Nat) (v : SV) : SS :=
 match d with
 | none => s
 | some d => ⟨upF s.fr d v, s.hp⟩
theorem lkF_up (n : Nat) (v : SV) (k : Nat) : ∀ fr, lkF (upF fr n v) k = if k = n then v else lkF fr k
 | [] => by
  simp only [upF, lkF]
  by_cases h : k = n
  ·subst h; simp
  ·have : (n == k) = false := by simp; exact fun e => h e.symm
   simp [this, h]
 | (k', x) :: r => by
  have ih := lkF_up n v k r
  simp only [upF]
  cases hk : k' == n with
  | true =>
   have e : k' = n := by simpa using hk
   subst e
   simp only [cond_true, lkF]
   by_cases h : k = k'
   ·subst h; simp
   ·have : (k' == k) = false := by simp; exact fun e => h e.symm
    simp [this, h]
  | false =>
   have e : k' ≠ n := by simpa using hk
   simp only [cond_false, lkF]
   by_cases h : k = k'
   ·subst h; simp [e]
   ·have : (k' == k) = false := by simp; exact fun e => h e.symm
    simp only [this, cond_false]
    exact ih
theorem Fr.put {E : En} {fr : List (Nat × SV)} {a : Act} (h : Fr E fr a) {d : Nat} (hd : d < a.tmps.size) {x : SV} {v : Value} (hx : den E x v) : Fr E (upF fr d x) (a.put (some d) v) := by
 intro k
 rw [lkF_up]
 simp only [Act.put]
 split
 ·rename_i hk
  subst hk
  rw [Array.getD_eq_getD_getElem?, Array.getElem?_setIfInBounds_self_of_lt hd]
  exact hx
 ·rename_i hk
  rw [Array.getD_eq_getD_getElem?, Array.getElem?_setIfInBounds_ne (fun e => hk e.symm), ← Array.getD_eq_getD_getElem?]
  exact h k
def keepF (l : List Nat) (fr : List (Nat × SV)) : List (Nat × SV) := l.map fun k => (k, lkF fr k)
theorem lkF_keep (fr : List (Nat × SV)) (k : Nat) : ∀ l : List Nat, lkF (keepF l fr) k = lkF fr k ∨ lkF (keepF l fr) k = .junk
  | [] => .inr rfl
  | n :: l => by
    simp only [keepF, List.map_cons, lkF]
    cases h : n == k with
    | true => have : n = k := by simpa using h
              subst this; exact .inl rfl
    | false => exact lkF_keep fr k l
theorem Fr.keep {E : En} {fr : List (Nat × SV)} {a : Act} (h : Fr E fr a) (l : List Nat) : Fr E (keepF l fr) a := by
 intro k
 rcases lkF_keep fr k l with e | e <;> rw [e]
 ·exact h k
 ·simp only [den]
/-! ### leaf by leaf -/
def SV.leaf : SV → Bool
 | .agg _ | .tup _ | .fn _ _ | .arr _ _ _ => false
 | _ => true
mutual
def SV.tr (f : SV → SV) : SV → SV
 | .agg l => .agg (SV.trL f l)
 | .tup l => .tup (SV.trL f l)
 | .fn g caps => .fn g (SV.trL f caps)
 | .arr n t xs => .arr n t xs
 | x => f x
def SV.trL (f : SV → SV) : List SV → List SV
 | [] => []
 | x :: r => x.tr f :: SV.trL f r
end
def SB.tr (f : SV → SV) : SB → SB
 | .struct cells => .struct (SV.trL f cells)
 | x => x
structure Tr (E E' : En) (f : SV → SV) : Prop where
 den : ∀ x v, x.leaf = true → den E x v → Go.V.den E' (f x) v
 arr : ∀ x, x.leaf = true → (f x).isArr = false
theorem SV.tr_leaf (f : SV → SV) (x : SV) (h : x.leaf = true) : x.tr f = f x := by cases x <;> simp [SV.leaf] at h <;> simp only [SV.tr]
theorem SV.isArr_tr {E E' : En} {f : SV → SV} (h : Tr E E' f) (x : SV) : (x.tr f).isArr = x.isArr := by
 by_cases hl : x.leaf = true
 ·rw [SV.tr_leaf f x hl, h.arr x hl]
  cases x <;> simp [SV.leaf] at hl <;> rfl
 ·cases x <;> simp [SV.leaf] at hl <;> simp [SV.tr, SV.isArr]
mutual
theorem den_tr {E E' : En} {f : SV → SV} (h : Tr E E' f) : ∀ (x : SV) (v : Value), den E x v → den E' (x.tr f) v
 | .agg l, v, hv => by
  simp only [den, SV.tr] at hv ⊢
  obtain ⟨cs, rfl, hc⟩ := hv
  exact ⟨cs, rfl, denC_tr h l _ hc⟩
 | .tup l, v, hv => by
  simp only [den, SV.tr] at hv ⊢
  obtain ⟨cs, rfl, hc⟩ := hv
  exact ⟨cs, rfl, denL_tr h l _ hc⟩
 | .fn g caps, v, hv => by
  simp only [den, SV.tr] at hv ⊢
  obtain ⟨cs, rfl, hc⟩ := hv
  exact ⟨cs, rfl, denL_tr h caps _ hc⟩
 | .arr _ _ _, v, hv => by simp only [den] at hv
 | .int k n, v, hv => by rw [SV.tr_leaf f _ rfl]; exact h.den _ v rfl hv
 | .bool b, v, hv => by rw [SV.tr_leaf f _ rfl]; exact h.den _ v rfl hv
 | .str s, v, hv => by rw [SV.tr_leaf f _ rfl]; exact h.den _ v rfl hv
 | .sl p eb t xs, v, hv => by rw [SV.tr_leaf f _ rfl]; exact h.den _ v rfl hv
 | .nilp, v, hv => by rw [SV.tr_leaf f _ rfl]; exact h.den _ v rfl hv
 | .nils, v, hv => by rw [SV.tr_leaf f _ rfl]; exact h.den _ v rfl hv
 | .nilm, v, hv => by rw [SV.tr_leaf f _ rfl]; exact h.den _ v rfl hv
 | .nilf, v, hv => by rw [SV.tr_leaf f _ rfl]; exact h.den _ v rfl hv
 | .nili, v, hv => by rw [SV.tr_leaf f _ rfl]; exact h.den _ v rfl hv
 | .ptr i off, v, hv => by rw [SV.tr_leaf f _ rfl]; exact h.den _ v rfl hv
 | .own i, v, hv => by rw [SV.tr_leaf f _ rfl]; exact h.den _ v rfl hv
 | .vw i lo hi sz, v, hv => by rw [SV.tr_leaf f _ rfl]; exact h.den _ v rfl hv
 | .mp i, v, hv => by rw [SV.tr_leaf f _ rfl]; exact h.den _ v rfl hv
 | .el i n sz off, v, hv => by rw [SV.tr_leaf f _ rfl]; exact h.den _ v rfl hv
 | .rel p eb t xs n off, v, hv => by rw [SV.tr_leaf f _ rfl]; exact h.den _ v rfl hv
 | .ptrA i off n sz, v, hv => by rw [SV.tr_leaf f _ rfl]; exact h.den _ v rfl hv
 | .pty i T, v, hv => by rw [SV.tr_leaf f _ rfl]; exact h.den _ v rfl hv
 | .svw i n, v, hv => by rw [SV.tr_leaf f _ rfl]; exact h.den _ v rfl hv
 | .slf xs, v, hv => by rw [SV.tr_leaf f _ rfl]; exact h.den _ v rfl hv
 | .junk1, v, hv => by rw [SV.tr_leaf f _ rfl]; exact h.den _ v rfl hv
 | .junk, v, hv => by rw [SV.tr_leaf f _ rfl]; exact h.den _ v rfl hv
theorem denC_tr {E E' : En} {f : SV → SV} (h : Tr E E' f) : ∀ (l : List SV) (cs : List Value), denC E l cs → denC E' (SV.trL f l) cs
 | [], cs, hc => by simp only [denC, SV.trL] at hc ⊢; exact hc
 | x :: r, cs, hc => by
  have ih := denC_tr h r
  have ihx := den_tr h x
  by_cases ha : x.isArr = true
  ·cases x <;> simp only [SV.isArr, Bool.false_eq_true] at ha
   simp only [denC, SV.trL, SV.tr] at hc ⊢
   obtain ⟨c1, c2, h1, h2, h3, h4, h5⟩ := hc
   exact ⟨c1, c2, h1, h2, h3, rdL_mono (fun x c hx => rd_flat _ h3 x c hx) _ _ h4, ih c2 h5⟩
  ·have ha' : x.isArr = false := by simpa using ha
   rw [denC_cons ha'] at hc
   obtain ⟨v, c2, h1, h2, h3⟩ := hc
   simp only [SV.trL]
   rw [denC_cons (by rw [SV.isArr_tr h]; exact ha')]
   exact ⟨v, c2, h1, ihx v h2, ih c2 h3⟩
theorem denL_tr {E E' : En} {f : SV → SV} (h : Tr E E' f) : ∀ (l : List SV) (cs : List Value), denL E l cs → denL E' (SV.trL f l) cs
 | [], cs, hc => by simp only [denL, SV.trL] at hc ⊢; exact hc
 | x :: r, cs, hc => by
  simp only [denL, SV.trL] at hc ⊢
  obtain ⟨v, r', rfl, h1, h2⟩ := hc
  exact ⟨v, r', rfl, den_tr h x v h1, denL_tr h r r' h2⟩
end
def frTr (f : SV → SV) (fr : List (Nat × SV)) : List (Nat × SV) := fr.map fun x => (x.1, x.2.tr f)
theorem lkF_tr (f : SV → SV) (hj : f .junk = .junk) (k : Nat) : ∀ fr, lkF (frTr f fr) k = (lkF fr k).tr f
 | [] => by simp [frTr, lkF, SV.tr, hj]
 | (k', x) :: r => by
  have ih := lkF_tr f hj k r
  simp only [frTr, List.map_cons, lkF] at ih ⊢
  cases k' == k
  ·simpa using ih
  ·simp
theorem Fr.tr {E E' : En} {f : SV → SV} (h : Tr E E' f) (hj : f .junk = .junk) {fr : List (Nat × SV)} {a : Act} (hf : Fr E fr a) : Fr E' (frTr f fr) a := by
 intro k
 rw [lkF_tr f hj]
 exact den_tr h _ _ (hf k)
theorem SB.live_tr (f : SV → SV) (sb : SB) : (sb.tr f).live = sb.live := by cases sb <;> rfl
theorem SBok.tr {E E' : En} {f : SV → SV} (h : Tr E E' f) (hw : E'.w = E.w) (hF : ∀ b, E.Fz b → E'.Fz b) {rv : RV} {sb : SB} (ho : SBok E rv sb) : SBok E' rv (sb.tr f) := by
 cases sb with
 | struct cells =>
  obtain ⟨b, cur, T, fr, h1, h2, h3, h4⟩ := ho
  exact ⟨b, cur, T, fr, h1, hw ▸ h2, h3, denC_tr h cells _ h4⟩
 | row mv eb t xs =>
  exact ownv_mono (fun b _ => by rw [hw]) (fun x c hx => rd_mono hF (fun b hb => by rw [hw]) t x c hx) ho
 | map va kt vt m =>
  obtain ⟨b, es, clk, h1, h2, h3⟩ := ho
  exact ⟨b, es, clk, h1, hw ▸ h2, h3.mono hF (fun b hb => by rw [hw])⟩
 | itr s p =>
  obtain ⟨b, h1, h2, h3⟩ := ho
  exact ⟨b, h1, hw ▸ h2, h3⟩
 | gone => trivial
/-! ### what is borrowed is forgotten -/
def unboF : SV → SV
 | .sl false _ _ _ => .junk1
 | .rel false _ _ _ _ _ => .junk1
 | x => x
theorem slv_one {α : Type} {w : World} {F : Nat → Prop} {R : α → List Value → Prop} {eb sz : Nat} {xs : List α} {v : Value} (h : slv w F R eb sz xs v) : v.oneCell' = true := by
 rcases h with ⟨_, _, _, rfl, _⟩ | ⟨_, _, _, _, _, _, _, rfl, _⟩ <;> rfl
theorem Tr.unbo (E : En) (B' : Nat → Prop) : Tr E { E with B := B' } unboF where
 arr x hx := by
  cases x <;> first | (simp [SV.leaf] at hx; done) | rfl | skip
  all_goals simp only [unboF]
  all_goals split <;> first | rfl | simp_all
 den x v hx hv := by
  have eF : ∀ b, En.F { E with B := B' } true b ↔ E.F true b := fun b => by simp [En.F]
  cases x with
  | sl p eb t xs =>
   cases p with
   | false => simp only [unboF, Go.V.den] at hv ⊢; exact slv_one hv
   | true =>
    simp only [unboF, Go.V.den] at hv ⊢
    exact slv_mono (fun b hb => (eF b).2 hb) (fun _ _ => rfl) (fun x c h => rd_mono (fun b hb => (eF b).2 hb) (fun _ _ => rfl) t x c h) hv
  | rel p eb t xs n off =>
   cases p with
   | false => simp only [unboF, Go.V.den] at hv ⊢; obtain ⟨_, _, _, _, _, _, _, rfl⟩ := hv; rfl
   | true =>
    simp only [unboF, Go.V.den] at hv ⊢
    obtain ⟨vs, b, o, l, c, h1, h2, h3⟩ := hv
    exact ⟨vs, b, o, l, c, slv_mono (fun b hb => (eF b).2 hb) (fun _ _ => rfl) (fun x c h => rd_mono (fun b hb => (eF b).2 hb) (fun _ _ => rfl) t x c h) h1, h2, h3⟩
  | agg _ => simp [SV.leaf] at hx
  | tup _ => simp [SV.leaf] at hx
  | fn _ _ => simp [SV.leaf] at hx
  | arr _ _ _ => simp [SV.leaf] at hx
  | _ => simp only [unboF, Go.V.den] at hv ⊢ <;> exact hv
/-! ### a row is frozen -/
def frzF (i eb : Nat) (t : Ty) (xs : List t.den) : SV → SV
 | .own j => if j = i then .sl true eb t xs else .own j
 | .vw j lo hi sz => if j = i then (if sz = t.size then .sl true eb t ((xs.drop lo).take (hi - lo)) else .junk1) else .vw j lo hi sz
 | .el j n sz off => if j = i then .junk1 else .el j n sz off
 | x => x
theorem frz_sound {hp : List SB} {E : En} (h : HS hp E) {i eb : Nat} {mv : Bool} {t : Ty} {xs : List t.den} (hi : hp[i]? = some (.row mv eb t xs)) :
  HS ((hp.map (SB.tr (frzF i eb t xs))).set i .gone) { E with Fz := fun b => E.Fz b ∨ (E.ρ i).blk = some b } ∧
  Tr E { E with Fz := fun b => E.Fz b ∨ (E.ρ i).blk = some b } (frzF i eb t xs) ∧
  Ev hp E ((hp.map (SB.tr (frzF i eb t xs))).set i .gone) { E with Fz := fun b => E.Fz b ∨ (E.ρ i).blk = some b } := by
 have hlt : i < hp.length := (List.getElem?_eq_some_iff.1 hi).1
 have up : ∀ p b, E.F p b → En.F { E with Fz := fun b => E.Fz b ∨ (E.ρ i).blk = some b } p b := fun p b hb => hb.elim (fun h => .inl (.inl h)) .inr
 have hrow : slv E.w (En.F { E with Fz := fun b => E.Fz b ∨ (E.ρ i).blk = some b } true) (rd E.w (En.F { E with Fz := fun b => E.Fz b ∨ (E.ρ i).blk = some b } true) t) eb t.size xs (E.ρ i).val := by
  rcases h.ok i _ hi with ⟨⟨ad, h1⟩, h2, rfl⟩ | ⟨b, off, cap, cur, T, fr, cs, h1, h2, h3, h4, h5, h6, h7, h8, h9, h10⟩
  ·exact .inl ⟨rfl, ad, 0, h1, by simp [maxLen], by simp⟩
  ·exact .inr ⟨b, off, cap, cur, T, fr, cs, h1, .inl (.inr h2), h3, h5, h6, h8, h9, rdL_mono (fun x c hx => rd_mono (fun b hb => .inl (.inl hb)) (fun _ _ => rfl) t x c hx) _ _ h10⟩
 have htr : Tr E { E with Fz := fun b => E.Fz b ∨ (E.ρ i).blk = some b } (frzF i eb t xs) := by
  refine ⟨fun x v hx hv => ?_, fun x hx => ?_⟩
  ·cases x with
   | own j =>
    simp only [frzF]
    simp only [den] at hv
    split
    ·rename_i hj
     subst hj
     simp only [den]
     rw [hv.2.1]; exact hrow
    ·simp only [den]; exact hv
   | vw j lo hi' sz =>
    simp only [frzF]
    simp only [den] at hv
    split
    ·rename_i hj
     subst hj
     split
     ·rename_i hsz
      simp only [den]
      rcases hv.2.2 with ⟨rfl, rfl, ad, _, rfl⟩ | ⟨b, o, l, c, h1, h2, ad, rfl, had⟩
      ·exact .inl ⟨by simp, ad, 0, rfl, by simp [maxLen], by simp⟩
      ·rw [h1] at hrow
       exact slr_part (rd_length t) hrow hv.2.1 h2 (by rw [← hsz]; exact had)
     ·simp only [den]
      rcases hv.2.2 with ⟨_, _, _, _, rfl⟩ | ⟨b, o, l, c, _, _, ad, rfl, _⟩ <;> rfl
    ·simp only [den]; exact hv
   | el j n sz off =>
    simp only [frzF]
    simp only [den] at hv
    split
    ·simp only [den]; obtain ⟨_, _, _, _, _, _, rfl⟩ := hv; rfl
    ·simp only [den]; exact hv
   | sl p eb t xs =>
    simp only [frzF, den] at hv ⊢
    exact slv_mono (up p) (fun _ _ => rfl) (fun x c h => rd_mono (up p) (fun _ _ => rfl) t x c h) hv
   | rel p eb t xs n off =>
    simp only [frzF, den] at hv ⊢
    obtain ⟨vs, b, o, l, c, h1, h2, h3⟩ := hv
    exact ⟨vs, b, o, l, c, slv_mono (up p) (fun _ _ => rfl) (fun x c h => rd_mono (up p) (fun _ _ => rfl) t x c h) h1, h2, h3⟩
   | slf xs =>
    simp only [frzF, den] at hv ⊢
    obtain ⟨b, cap, cur, T, h1, h2, h3⟩ := hv
    exact ⟨b, cap, cur, T, h1, .inl h2, h3⟩
   | agg _ => simp [SV.leaf] at hx
   | tup _ => simp [SV.leaf] at hx
   | fn _ _ => simp [SV.leaf] at hx
   | arr _ _ _ => simp [SV.leaf] at hx
   | _ => simp only [frzF, den] at hv ⊢ <;> exact hv
  ·cases x <;> first | (simp [SV.leaf] at hx; done) | rfl | skip
   all_goals simp only [frzF]
   all_goals (repeat' split) <;> rfl
 have hget : ∀ j s', ((hp.map (SB.tr (frzF i eb t xs))).set i .gone)[j]? = some s' → (j = i ∧ s' = .gone) ∨ (j ≠ i ∧ ∃ s, hp[j]? = some s ∧ s' = s.tr (frzF i eb t xs)) := by
  intro j s' hj
  rw [List.getElem?_set] at hj
  split at hj
  ·rename_i hij
   subst hij
   rw [if_pos (by simpa using hlt)] at hj
   cases hj
   exact .inl ⟨rfl, rfl⟩
  ·rename_i hij
   rw [List.getElem?_map] at hj
   cases hs : hp[j]? with
   | none => rw [hs] at hj; cases hj
   | some s => rw [hs] at hj; cases hj; exact .inr ⟨fun e => hij e.symm, s, rfl, rfl⟩
 have hlv : ∀ b, Lv ((hp.map (SB.tr (frzF i eb t xs))).set i .gone) { E with Fz := fun b => E.Fz b ∨ (E.ρ i).blk = some b } b → Lv hp E b ∧ (E.ρ i).blk ≠ some b := by
  rintro b ⟨j, sj, hj, hjl, hjb⟩
  rcases hget j sj hj with ⟨rfl, rfl⟩ | ⟨hji, s, hs, rfl⟩
  ·simp [SB.live] at hjl
  ·rw [SB.live_tr] at hjl
   exact ⟨⟨j, s, hs, hjl, hjb⟩, fun hb => hji (h.dist _ _ _ _ b hs hi hjl rfl hjb hb)⟩
 refine ⟨⟨by simp [h.n], ?_, ?_, ?_, ?_⟩, htr, ⟨rfl, rfl, rfl, Nat.le_refl _, fun _ _ _ => rfl, fun b hb => .inl (hlv b hb).1, fun b hb => .inl hb, ?_, rfl⟩⟩
 ·intro j s' hj
  rcases hget j s' hj with ⟨rfl, rfl⟩ | ⟨hji, s, hs, rfl⟩
  ·trivial
  ·exact SBok.tr htr rfl (fun b hb => .inl hb) (h.ok j s hs)
 ·intro j k sj sk b hj hk hjl hkl hjb hkb
  rcases hget j sj hj with ⟨rfl, rfl⟩ | ⟨hji, s, hs, rfl⟩
  ·simp [SB.live] at hjl
  ·rcases hget k sk hk with ⟨rfl, rfl⟩ | ⟨hki, s2, hs2, rfl⟩
   ·simp [SB.live] at hkl
   ·rw [SB.live_tr] at hjl hkl
    exact h.dist _ _ _ _ b hs hs2 hjl hkl hjb hkb
 ·intro b hb
  obtain ⟨h1, h2⟩ := hlv b hb
  obtain ⟨h3, h4, h5⟩ := h.own b h1
  exact ⟨h3, fun hx => hx.elim h4 h2, h5⟩
 ·rintro b ((hb | hb) | hb)
  ·exact h.old b (.inl hb)
  ·exact (h.own b ⟨i, _, hi, rfl, hb⟩).1
  ·exact h.old b (.inr hb)
 ·rintro b (hb | hb)
  ·exact .inl hb
  ·exact .inr (.inl ⟨i, _, hi, rfl, hb⟩)
/-! ### some of the resources, numbered anew -/
def posOf : List Nat → Nat → Option Nat
 | [], _ => none
 | x :: r, i => bif x == i then some 0 else (posOf r i).map (· + 1)
theorem posOf_some : ∀ (l : List Nat) (i j : Nat), posOf l i = some j → l[j]? = some i
 | [], i, j, h => by simp [posOf] at h
 | x :: r, i, j, h => by
  simp only [posOf] at h
  cases hx : x == i with
  | true => rw [hx] at h; simp at h; subst h; simpa using hx
  | false =>
   rw [hx] at h
   simp only [cond_false] at h
   cases hp : posOf r i with
   | none => rw [hp] at h; cases h
   | some k =>
    rw [hp] at h
    simp at h
    subst h
    simpa using posOf_some r i k hp
def selHp (idx : List Nat) (f : Nat → Option Nat) (hp : List SB) : List SB := idx.map fun i => (hp.getD i .gone).ren f
theorem sel_sound {hp : List SB} {E : En} (h : HS hp E) {idx : List Nat} (hnd : idx.Nodup) (hlt : ∀ i ∈ idx, i < hp.length) :
  HS (selHp idx (posOf idx) hp) { E with N := idx.length, ρ := fun j => E.ρ (idx.getD j 0) } ∧ Ren E { E with N := idx.length, ρ := fun j => E.ρ (idx.getD j 0) } (posOf idx) := by
 have hren : Ren E { E with N := idx.length, ρ := fun j => E.ρ (idx.getD j 0) } (posOf idx) := by
  refine ⟨fun i j hi hf => ?_, fun _ hb => hb, fun _ hb => .inl hb, fun _ _ => rfl⟩
  have := posOf_some idx i j hf
  obtain ⟨h1, h2⟩ := List.getElem?_eq_some_iff.1 this
  exact ⟨h1, by simp [List.getD_eq_getElem?_getD, this]⟩
 have hget : ∀ j s', (selHp idx (posOf idx) hp)[j]? = some s' → ∃ i s, idx[j]? = some i ∧ hp[i]? = some s ∧ s' = s.ren (posOf idx) ∧ E.ρ (idx.getD j 0) = E.ρ i := by
  intro j s' hj
  unfold selHp at hj
  rw [List.getElem?_map] at hj
  cases hi : idx[j]? with
  | none => rw [hi] at hj; cases hj
  | some i =>
   rw [hi] at hj
   cases hj
   have := hlt i (List.mem_of_getElem? hi)
   exact ⟨i, hp[i], rfl, List.getElem?_eq_getElem this, by simp [List.getD_eq_getElem?_getD, List.getElem?_eq_getElem this], by simp [List.getD_eq_getElem?_getD, hi]⟩
 have hlv : ∀ b, Lv (selHp idx (posOf idx) hp) { E with N := idx.length, ρ := fun j => E.ρ (idx.getD j 0) } b → Lv hp E b := by
  rintro b ⟨j, sj, hj, hjl, hjb⟩
  obtain ⟨i, s, h1, h2, rfl, h4⟩ := hget j sj hj
  rw [SB.live_ren] at hjl
  simp only at hjb
  rw [h4] at hjb
  exact ⟨i, s, h2, hjl, hjb⟩
 refine ⟨⟨by simp [selHp], ?_, ?_, fun b hb => h.own b (hlv b hb), h.old⟩, hren⟩
 ·intro j s' hj
  obtain ⟨i, s, h1, h2, rfl, h4⟩ := hget j s' hj
  show SBok _ (E.ρ (idx.getD j 0)) _
  rw [h4]
  exact SBok.ren hren (fun _ _ _ => rfl) (h.ok i s h2)
 ·intro j k sj sk b hj hk hjl hkl hjb hkb
  obtain ⟨i, s, h1, h2, rfl, h4⟩ := hget j sj hj
  obtain ⟨i', s2, h1', h2', rfl, h4'⟩ := hget k sk hk
  rw [SB.live_ren] at hjl hkl
  simp only at hjb hkb
  rw [h4] at hjb; rw [h4'] at hkb
  have := h.dist _ _ _ _ b h2 h2' hjl hkl hjb hkb
  subst this
  obtain ⟨e1, e2⟩ := List.getElem?_eq_some_iff.1 h1
  obtain ⟨e3, e4⟩ := List.getElem?_eq_some_iff.1 h1'
  exact (List.getElem_inj hnd).1 (e2.trans e4.symm)
end Go.V
