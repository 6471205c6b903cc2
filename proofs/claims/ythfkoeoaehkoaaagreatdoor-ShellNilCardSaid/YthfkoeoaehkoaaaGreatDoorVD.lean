/- An entry is written. -/
import Derived.Test.YthfkoeoaehkoaaaGreatDoorVC
import Derived.Laws.IdiomStrings
import Derived.Laws.MakeOwn
import Derived.Lib.OthersKept
namespace Go.V
set_option linter.unusedSimpArgs false
set_option linter.unnecessarySimpa false
set_option linter.unusedVariables false
section effects
variable {P : Program} {o : Oper} {S : Start} {s : SS} {E : En} {a : Act} {K : SV → SS → Prop} {next : Act → World → Prop} {Q : Exit → Act → World → Prop} {Γ : List (Nat × Contract)}
theorem Chg.setObj {w : World} {b : Nat} (ob : Obj) : Chg w { w with heap := w.heap.setIfInBounds b ob } (fun c => c = b) :=
 ⟨rfl, rfl, rfl, by simp, fun c _ hn => by simp [Array.getElem?_setIfInBounds_ne (Ne.symm hn)]⟩
theorem valC_sound {va : Bool} {x : SV} {v : Value} {l : List SV} (hx : den E x v) (h : valC va x = some l) : ∃ cs, denC E l cs ∧ (match va with | true => v = .agg cs.toArray | false => cs = [v]) := by
 cases va with
 | true =>
  simp only [valC] at h
  split at h
  ·cases h
   simp only [den] at hx
   obtain ⟨cs, rfl, hc⟩ := hx
   exact ⟨cs.toList, hc, by simp⟩
  ·cases h
 | false =>
  simp only [valC] at h
  split at h
  ·rename_i h1
   cases h
   refine ⟨[v], ?_, rfl⟩
   rw [denC_cons (one_noArr h1)]
   exact ⟨v, [], rfl, hx, by simp [denC]⟩
  ·cases h
theorem e_mu {va : Bool} {kt vt : Ty} {y z u : Opd} (hok : okE P o.op (.mu va kt vt y z u) = true) (hs : Sat S s E a) (h : eff Γ (.mu va kt vt y z u) s K) (hg : Goes S a o K next) : o.wp P a E.w next Q := by
 cases ho : o.op <;> simp only [okE, ho] at hok <;> first | cases hok | skip
 rename_i T x k v
 simp only [Bool.and_eq_true] at hok
 obtain ⟨⟨⟨h1, h2⟩, h3⟩, h4⟩ := hok
 split at h4
 ·rename_i KT VT hT
  obtain ⟨d, hkt⟩ := okKey_sound h4
  have g1 := get_sound h1 hs.fr
  have g2 := get_sound h2 hs.fr
  have g3 := get_sound h3 hs.fr
  simp only [eff, mu1] at h
  split at h
  ·rename_i i hx
   rw [hx] at g1
   simp only [den] at g1
   obtain ⟨_, b, hb, hxv⟩ := g1
   unfold mu0 at h
   split at h
   ·rename_i va' kt' vt' m hi
    obtain ⟨⟨e1, e2, e3⟩, hlen, h⟩ := h
    subst e1; subst e2; subst e3
    unfold mu2 at h
    split at h
    ·rename_i key hk
     split at h
     ·rename_i l hl
      obtain ⟨cs, hcs, hval⟩ := valC_sound g3 hl
      obtain ⟨E', f1, f2, f3, f4, f5⟩ := frzAll_sound (SV.rowsL l) s l E _ hs hcs
      have hi' := frzAll_map (SV.rowsL l) s l hi
      unfold mu3 at h
      split at h
      ·rename_i yv hof
       obtain ⟨c1, c2, rfl, q1, q2⟩ := ofSv_sound vt' _ _ _ _ hof f3
       simp only [denC] at q2
       subst q2
       rw [List.append_nil] at hval
       obtain ⟨b', es, clk, w1, w2, w3⟩ := f2.hs.ok i _ hi'
       rw [f5, hb] at w1
       cases w1
       have hkv := hkt.keyOf E _ key _ hk g2 E'.w E'.Fz
       have hrdV : rdV E'.w E'.Fz va' vt' yv (a.eval v) := by
        cases va' with
        | true => simp only at hval; rw [hval]; exact ⟨_, rfl, by simpa using q1⟩
        | false => simp only at hval; rw [hval] at q1; exact q1
       rw [← f1]
       have fin : ∀ (es' : Array MapEntry) (clk' : Nat), (Instr.mapUpdate T (.map (some b)) (a.eval k) (a.eval v)).run P E'.w = .ok () { E'.w with heap := E'.w.heap.setIfInBounds b (.map es' clk') } →
         mapok E'.w E'.Fz va' kt' vt' (updM kt' vt' m key yv) es' clk' → o.wp P a E'.w next Q := by
        intro es' clk' hr hm
        have hc : Chg E'.w { E'.w with heap := E'.w.heap.setIfInBounds b (.map es' clk') } (fun c => (E'.ρ i).blk = some c) := (Chg.setObj _).mono (fun c hc => by subst hc; rw [f5]; exact hb)
        have hsame := ren_same f2.hs hi' rfl hc
        have hs' := f2.setSame (sb' := .map va' kt' vt' (updM kt' vt' m key yv)) hi' rfl hc ⟨b, es', clk', by rw [f5]; exact hb, by simp [Array.getElem?_setIfInBounds_self_of_lt (Array.getElem?_eq_some_iff.1 w2).1], hm.mono hsame.fz (fun b hb => hsame.mem b (.inl hb))⟩ rfl (fun _ hid => hid)
        unfold Oper.wp Oper.upon
        have hex : (execOp a.eval o).run P E'.w = .ok .skip { E'.w with heap := E'.w.heap.setIfInBounds b (.map es' clk') } := by
         simp [execOp, ho, hxv, hr]
        rw [hex]
        exact hg .junk _ _ undef h (by simp only [den]) hs'
       have hlen' := rdM_length m es.toList w3.rd
       rcases find_spec hkt w3.rd w3.nodup hkv with ⟨n1, n2, n3⟩ | ⟨j, e, x0, n1, n2, n3, n4, n5, n6, n7⟩
       ·refine fin (es.push { key := a.eval k, val := a.eval v, born := clk }) (clk + 1) ?_ ?_
        ·simp [Instr.mapUpdate, run_underlying hT, MapKept.run_getObj_map w2, MapKept.run_checkKey hkt.u (hkt.isKey _ _ _ _ hkv), MapKept.run_findKey hkt.u n1, MapKept.run_setObj_map _ w2, Result.andThen]
        ·rw [updM_none hkt.beq m n3]
         refine ⟨?_, ?_, ?_, ?_, ?_⟩
         ·rw [Array.toList_push]; exact rdM_push (x := (key, yv)) hkv hrdV m es.toList w3.rd
         ·rw [List.map_append, List.map_cons, List.map_nil, List.nodup_append]
          refine ⟨w3.nodup, by simp, fun p hp q hq => ?_⟩
          simp at hq; subst hq
          intro e; subst e
          obtain ⟨x, hx, hxe⟩ := List.mem_map.1 hp
          exact n3 x hx hxe
         ·rw [Array.toList_push, List.map_append, List.pairwise_append]
          refine ⟨w3.born, by simp, fun p hp q hq => ?_⟩
          simp at hq; subst hq
          obtain ⟨x, hx, hxe⟩ := List.mem_map.1 hp
          rw [← hxe]; exact w3.clk x hx
         ·intro e he
          rw [Array.toList_push] at he
          rcases List.mem_append.1 he with he | he
          ·have := w3.clk e he; omega
          ·simp at he; subst he; simp
         ·simp; omega
       ·have hj : es[j]? = some e := by simpa using n2
        refine fin (es.modify j fun e => { e with key := a.eval k, val := a.eval v }) clk ?_ ?_
        ·simp [Instr.mapUpdate, run_underlying hT, MapKept.run_getObj_map w2, MapKept.run_checkKey hkt.u (hkt.isKey _ _ _ _ hkv), MapKept.run_findKey hkt.u n1, hj, n3, MapKept.run_keyThatStays (hkt.isKey _ _ _ _ hkv), MapKept.run_setObj_map _ w2, Result.andThen]
        ·rw [updM_some hkt.beq m j x0 w3.nodup n4 n5]
         have hlist : (es.modify j fun e => { e with key := a.eval k, val := a.eval v }).toList = es.toList.set j { e with key := a.eval k, val := a.eval v } := by
          apply List.ext_getElem?
          intro p
          rw [Array.getElem?_toList, Array.getElem?_modify, List.getElem?_set, Array.length_toList]
          by_cases hpj : j = p
          ·subst hpj
           rw [if_pos rfl, if_pos rfl, if_pos (Array.getElem?_eq_some_iff.1 hj).1, hj]
           rfl
          ·simp [hpj]
         have hset : ∀ {β : Type} (l : List β) (n : Nat) (x : β), l[n]? = some x → l.set n x = l := fun l n x h => by
          apply List.ext_getElem?
          intro p
          rw [List.getElem?_set]
          by_cases hp : n = p
          ·subst hp; rw [if_pos rfl, if_pos (List.getElem?_eq_some_iff.1 h).1, h]
          ·simp [hp]
         refine ⟨?_, ?_, ?_, ?_, ?_⟩
         ·rw [hlist]; exact rdM_set (x := (key, yv)) (e := { e with key := a.eval k, val := a.eval v }) hkv hrdV m es.toList j w3.rd
         ·rw [List.map_set, hset _ _ _ (by rw [List.getElem?_map, n4]; simp [n5])]
          exact w3.nodup
         ·rw [hlist, List.map_set, hset _ _ _ (by rw [List.getElem?_map, n2]; rfl)]
          exact w3.born
         ·intro e' he'
          rw [hlist] at he'
          rcases List.mem_or_eq_of_mem_set he' with he' | rfl
          ·exact w3.clk e' he'
          ·exact w3.clk e (List.mem_of_getElem? n2)
         ·rw [List.length_set]; exact w3.len
      ·cases h
     ·cases h
    ·cases h
   ·cases h
  ·cases h
 ·cases h4
theorem e_s2b {y : Opd} (hok : okE P o.op (.s2b y) = true) (hs : Sat S s E a) (h : eff Γ (.s2b y) s K) (hg : Goes S a o K next) : o.wp P a E.w next Q := by
 cases ho : o.op <;> simp only [okE, ho] at hok <;> first | cases hok | skip
 rename_i SS' D x
 simp only [Bool.and_eq_true] at hok
 obtain ⟨⟨h1, h2⟩, h3⟩ := hok
 have g := get_sound h1 hs.fr
 split at h3
 ·rename_i e hD
  simp only [Bool.and_eq_true] at h3
  obtain ⟨hebk, h3⟩ := h3
  split at h3
  ·rename_i he
   simp only [eff, s2b1] at h
   split at h
   ·rename_i b hb
    obtain ⟨hsz, h⟩ := h
    rw [hb] at g
    simp only [den] at g
    obtain ⟨hv, _⟩ := g
    have hr := run_bytes_of_string E.w SS' D e b (okKind_i h2) hD he
    have hcap : b.size ≤ grownCap E.w b.size 0 e := grownCap_ge _ _ _ _
    have hlen : (bytesRow b (grownCap E.w b.size 0 e)).size = grownCap E.w b.size 0 e := by
     have : b.data.size = b.size := rfl
     simp [bytesRow, this]; omega
    have hc := (Chg.drew E.w).trans (Chg.alloc E.w.drew (.cells (bytesRow b (grownCap E.w b.size 0 e)) e ((bytesRow b (grownCap E.w b.size 0 e)).size, (bytesRow b (grownCap E.w b.size 0 e)).size + 1)))
    have hw : E.w.drew.heap = E.w.heap := rfl
    have hs' := hs.push (b' := .row true 1 .byte b.data.toList) (rv' := ⟨some E.w.heap.size, .slice (some ⟨E.w.heap.size, 0, none⟩) b.size (grownCap E.w b.size 0 e)⟩) hc (fun c hc => by cases hc; simp [hw])
     (.inr ⟨E.w.heap.size, 0, grownCap E.w b.size 0 e, bytesRow b (grownCap E.w b.size 0 e), e, _, _, by rw [Array.length_toList]; rfl, rfl, heap_alloc_new E.w.drew _, ⟨.inr (Nat.le_refl _), ebOk.of hebk⟩, by rw [Array.length_toList]; exact hcap,
      grownCap_le_maxLen _ _ _ _ (by simp only [maxLen]; omega), by rw [hlen]; simp [Ty.size], by rw [Array.length_toList]; show b.size * 1 ≤ _; omega, rfl, by
       have e1 : ((bytesRow b (grownCap E.w b.size 0 e)).toList.drop 0).take (b.data.toList.length * Ty.byte.size) = b.data.toList.map fun c => Value.int .u8 c.toNat := by
        simp only [Ty.size, Nat.mul_one, List.drop_zero, bytesRow, Array.toList_append, Array.toList_map]
        rw [List.take_append_of_le_length (by simp)]
        rw [List.take_of_length_le (by simp)]
       rw [e1]
       generalize b.data.toList = l
       induction l with
       | nil => simp [rdL]
       | cons c r ih => exact ⟨[_], _, rfl, by simp only [rd], ih⟩⟩)
    refine goes_value hg h (v := .slice (some ⟨E.w.heap.size, 0, none⟩) b.size (grownCap E.w b.size 0 e)) ?_ hs' ?_
    ·simp only [den]
     refine ⟨by show _ < E.N + 1; have := hs.hs.n; omega, ?_, rfl⟩
     show _ = (upR E.ρ E.N _ _).val
     rw [← hs.hs.n, upd_same]
    ·simp [execOp, ho, hv, hr]
   ·cases h
  ·cases h3
 ·cases h3
theorem zs_ofSv : ∀ (t : Ty) (r : List SV), t.ofSv (t.zs ++ r) = some (t.dflt, r)
 | .int k, r => by simp [Ty.zs, Ty.ofSv, Ty.dflt]
 | .byte, r => by simp [Ty.zs, Ty.ofSv, Ty.dflt]
 | .bool, r => by simp [Ty.zs, Ty.ofSv, Ty.dflt]
 | .str, r => by simp [Ty.zs, Ty.ofSv, Ty.dflt]
 | .sl _ _, r => by simp [Ty.zs, Ty.ofSv, Ty.dflt]
 | .pair a b, r => by
  simp only [Ty.zs, List.append_assoc, Ty.ofSv, zs_ofSv a, zs_ofSv b, Ty.dflt]
 | .unit, r => by simp [Ty.zs, Ty.ofSv, Ty.dflt]
 | .any1, r => by simp [Ty.zs, Ty.ofSv, Ty.dflt, isOne]
theorem madeCells_rd {α : Type} {R : α → List Value → Prop} {x : α} {z : Array Value} (hz : R x z.toList) : ∀ (n : Nat), rdL R (List.replicate n x) (madeCells z (n * z.size)).toList := by
 have key : ∀ n, (madeCells z (n * z.size)).toList = (List.replicate n z.toList).flatten := by
  intro n
  induction n with
  | zero => simp [madeCells]
  | succ n ih =>
   rw [List.replicate_succ', List.flatten_append, ← ih]
   simp only [List.flatten_cons, List.flatten_nil, List.append_nil]
   apply List.ext_getElem
   ·simp [madeCells, Nat.succ_mul]
   ·intro i h1 h2
    simp [madeCells] at h1 h2 ⊢
    rw [List.getElem_append]
    have hpos : 0 < z.size := by
     rcases Nat.eq_zero_or_pos z.size with h | h
     ·rw [h] at h1; simp at h1
     ·exact h
    have hm : i % z.size < z.size := Nat.mod_lt _ hpos
    split
    ·simp [getElem!_pos, hm]
    ·rename_i hi
     simp at hi
     have h1' : i < n * z.size + z.size := by rw [Nat.succ_mul] at h1; exact h1
     have : i % z.size = i - n * z.size := by
      have e0 : z.size * n = n * z.size := Nat.mul_comm _ _
      have e : i = (i - n * z.size) + z.size * n := by omega
      have h3 : ((i - n * z.size) + z.size * n) % z.size = i - n * z.size := by
       rw [Nat.add_mul_mod_self_left, Nat.mod_eq_of_lt (by omega)]
      rwa [← e] at h3
     have h4 : i - n * z.size < z.size := by omega
     rw [this]
     simp [h4]
 intro n
 rw [key]
 induction n with
 | zero => simp [rdL]
 | succ n ih =>
  rw [List.replicate_succ, List.replicate_succ, List.flatten_cons]
  exact ⟨_, _, rfl, hz, ih⟩
theorem madeCells_take (z : Array Value) (n m : Nat) (h : n ≤ m) : (madeCells z m).toList.take n = (madeCells z n).toList := by
 apply List.ext_getElem
 ·simp [madeCells]; omega
 ·intro i h1 h2
  simp [madeCells]
theorem e_bldF {zs : List SV} {ps : List (Nat × Nat × Opd)} (hok : okE P o.op (.bldF zs ps) = true) (hs : Sat S s E a) (h : eff Γ (.bldF zs ps) s K) (hg : Goes S a o K next) : o.wp P a E.w next Q := by
 simp only [okE] at hok
 simp only [eff, bldF1] at h
 split at h
 ·rename_i l hl
  obtain ⟨_, v, hrun, hv⟩ := q_bld (q := ⟨True, True, .agg l⟩) hok hs.fr (by simp only [ev, hl, Option.map_some])
  simp only [den] at hv
  obtain ⟨cs, rfl, hc⟩ := hv
  obtain ⟨E', f1, f2, f3, f4, f5⟩ := frzAll_sound (SV.rowsL l) s l E _ hs hc
  refine goes_value hg h (by simp only [den]; exact ⟨cs, rfl, f3⟩) f2 ?_
  rw [f1]
  exact hrun
 ·exact h.elim
theorem e_mks {eb : Nat} {t : Ty} {y z : Opd} (hok : okE P o.op (.mks eb t y z) = true) (hs : Sat S s E a) (h : eff Γ (.mks eb t y z) s K) (hg : Goes S a o K next) : o.wp P a E.w next Q := by
 cases ho : o.op <;> simp only [okE, ho] at hok <;> first | cases hok | skip
 rename_i T n c
 simp only [Bool.and_eq_true] at hok
 obtain ⟨⟨h1, h2⟩, h3⟩ := hok
 have g1 := get_sound h1 hs.fr
 have g2 := get_sound h2 hs.fr
 split at h3
 ·rename_i e hT
  split at h3
  ·rename_i i hi
   simp only [Bool.and_eq_true, beq_iff_eq, bne_iff_ne, ne_eq] at h3
   obtain ⟨⟨⟨⟨hebk, k1⟩, k2⟩, k3⟩, k4⟩ := h3
   split at k4
   ·rename_i zv hz
    simp only [Bool.and_eq_true, beq_iff_eq] at k4
    obtain ⟨k4, k5⟩ := k4
    simp only [eff, mks1] at h
    split at h
    ·rename_i kl l hl
     split at h
     ·rename_i kc cc hcc
      obtain ⟨⟨b0, b1, b2, b3⟩, h⟩ := h
      rw [hl] at g1; rw [hcc] at g2
      simp only [den] at g1 g2
      have hm := Int.mul_comm cc (eb : Int)
      have hr := run_make (P := P) E.w T e i zv hT hi hz kl kc l cc b0 b1 (by rw [k2]; omega) b2
      have hc := Chg.alloc E.w (.cells (madeCells zv.cells (cc.toNat * i.size)) e)
      have hzd := zs_ofSv t []
      rw [List.append_nil] at hzd
      obtain ⟨c1, c2, hcs, q1, q2⟩ := ofSv_sound (E := E) t _ _ _ _ hzd (cstC_sound (E := E) _ _ k5)
      simp only [denC] at q2
      subst q2
      rw [List.append_nil] at hcs
      rw [← hcs] at q1
      have hlc : l.toNat ≤ cc.toNat := by omega
      have hle : l.toNat * t.size ≤ cc.toNat * t.size := Nat.mul_le_mul_right _ hlc
      have hrow := madeCells_rd (R := rd E.w E.Fz t) q1 l.toNat
      have hmono := rdL_mono (fun x c hx => rd_mono (F' := E.Fz) (w' := E.w.alloc (.cells (madeCells zv.cells (cc.toNat * i.size)) e)) (fun _ h => h) (fun b hb => hc.keep b (hs.hs.old b (.inl hb)) (fun h => h)) t x c hx) _ _ hrow
      have hbn : l.toNat * eb ≤ 140737488355328 := by
       have h1 : l.toNat * eb ≤ cc.toNat * eb := Nat.mul_le_mul_right _ hlc
       have h2 : ((cc.toNat * eb : Nat) : Int) = cc * eb := by rw [Int.natCast_mul, Int.toNat_of_nonneg (by omega)]
       omega
      have hs' := hs.push (b' := .row true eb t (List.replicate l.toNat t.dflt)) (rv' := ⟨some E.w.heap.size, .slice (some ⟨E.w.heap.size, 0, none⟩) l.toNat cc.toNat⟩) hc (fun b hb => by cases hb; simp)
       (.inr ⟨E.w.heap.size, 0, cc.toNat, madeCells zv.cells (cc.toNat * i.size), e, (0, 0), _, by rw [List.length_replicate], rfl, heap_alloc_new E.w _, ⟨.inl rfl, ebOk.of hebk⟩, by rw [List.length_replicate]; exact hlc,
        by simp only [maxLen]; omega, by rw [size_madeCells, k1]; omega, by rw [List.length_replicate]; exact hbn, rfl, by
         rw [List.length_replicate, List.drop_zero, madeCells_take _ _ _ (by rw [k1]; exact hle), ← k4]; exact hmono⟩)
      refine goes_value hg h (v := .slice (some ⟨E.w.heap.size, 0, none⟩) l.toNat cc.toNat) ?_ hs' ?_
      ·simp only [den]
       refine ⟨by show _ < E.N + 1; have := hs.hs.n; omega, ?_, rfl⟩
       show _ = (upR E.ρ E.N _ _).val
       rw [← hs.hs.n, upd_same]
      ·simp [execOp, ho, g1.1, g2.1, hr]
     ·cases h
    ·cases h
   ·cases k4
  ·cases h3
 ·cases h3
theorem map_erase {α β : Type} (f : α → β) : ∀ (l : List α) (j : Nat), (l.eraseIdx j).map f = (l.map f).eraseIdx j
 | [], j => by simp
 | x :: r, 0 => by simp
 | x :: r, j + 1 => by simp [map_erase f r j]
theorem rdM_erase {w : World} {F : Nat → Prop} {va : Bool} {kt vt : Ty} : ∀ (m : List (kt.den × vt.den)) (es : List MapEntry) (j : Nat), rdM w F va kt vt m es → rdM w F va kt vt (m.eraseIdx j) (es.eraseIdx j)
 | [], es, j, h => by simp only [rdM] at h; subst h; simp [rdM]
 | y :: m, es, 0, h => by obtain ⟨e', r, rfl, h3, h4, h5⟩ := h; simpa using h5
 | y :: m, es, j + 1, h => by
  obtain ⟨e', r, rfl, h3, h4, h5⟩ := h
  exact ⟨e', r.eraseIdx j, rfl, h3, h4, rdM_erase m r j h5⟩
theorem delM_none {kt vt : Ty} {key : kt.den} (hb : ∀ x y : kt.den, kt.beq x y = true ↔ x = y) (m : List (kt.den × vt.den)) (h : ∀ x ∈ m, x.1 ≠ key) : delM kt vt m key = m := by
 unfold delM
 rw [List.filter_eq_self]
 intro x hx
 cases hk : kt.beq x.1 key with
 | false => rfl
 | true => exact absurd ((hb _ _).1 hk) (h x hx)
theorem delM_some {kt vt : Ty} {key : kt.den} (hb : ∀ x y : kt.den, kt.beq x y = true ↔ x = y) : ∀ (m : List (kt.den × vt.den)) (j : Nat) (x : kt.den × vt.den), (m.map Prod.fst).Nodup → m[j]? = some x → x.1 = key → delM kt vt m key = m.eraseIdx j
 | [], j, x, _, h, _ => by simp at h
 | (k, v) :: r, 0, x, hn, h, hx => by
  simp at h; subst h
  simp only at hx
  subst hx
  simp only [List.map_cons, List.nodup_cons] at hn
  have := delM_none (vt := vt) hb r (key := k) (fun y hy e => hn.1 (by rw [← e]; exact List.mem_map_of_mem hy))
  unfold delM at this ⊢
  rw [List.filter_cons, if_neg (by simp [(hb _ _).2 rfl]), this]
  rfl
 | (k, v) :: r, j + 1, x, hn, h, hx => by
  simp only [List.map_cons, List.nodup_cons] at hn
  have hj : r[j]? = some x := by simpa using h
  have h1 : kt.beq k key = false := by
   cases hk : kt.beq k key with
   | false => rfl
   | true =>
    have := (hb _ _).1 hk
    subst this
    exact absurd (by rw [← hx]; exact List.mem_map_of_mem (List.mem_of_getElem? hj)) hn.1
  have := delM_some (vt := vt) hb r j x hn.2 hj hx
  unfold delM at this ⊢
  rw [List.filter_cons, if_pos (by simp [h1]), this]
  rfl
theorem e_dl {kt : Ty} {y z : Opd} (hok : okE P o.op (.dl kt y z) = true) (hs : Sat S s E a) (h : eff Γ (.dl kt y z) s K) (hg : Goes S a o K next) : o.wp P a E.w next Q := by
 simp only [okE] at hok
 split at hok
 ·rename_i args ts ho
  simp only [Bool.and_eq_true] at hok
  obtain ⟨h1, h4⟩ := hok
  split at h4
  ·rename_i T ts' hts
   split at h4
   ·rename_i KT VT hT
    obtain ⟨d, hkt⟩ := okKey_sound h4
    have hl := okOpds_sound hs.fr _ _ h1
    simp only [List.map_cons, List.map_nil, denL] at hl
    obtain ⟨v1, r1, e1, g1, v2, r2, e2, g2, e3⟩ := hl
    subst e3; subst e2
    simp only [eff, dl1] at h
    split at h
    ·rename_i i hx
     rw [hx] at g1
     simp only [den] at g1
     obtain ⟨_, b, hb, hxv⟩ := g1
     subst hxv
     unfold dl0 at h
     split at h
     ·rename_i va kt' vt m hi
      obtain ⟨e4, h⟩ := h
      subst e4
      unfold dl2 at h
      split at h
      ·rename_i key hk
       obtain ⟨b', es, clk, w1, w2, w3⟩ := hs.hs.ok i _ hi
       rw [hb] at w1
       cases w1
       have hkv := hkt.keyOf E _ key _ hk g2 E.w E.Fz
       have fin : ∀ (es' : Array MapEntry), (∀ ty, (Builtin.delete_ ts ty #[.map (some b), v2]).run P E.w = .ok (.tuple #[]) { E.w with heap := E.w.heap.setIfInBounds b (.map es' clk) }) →
         mapok E.w E.Fz va kt' vt (delM kt' vt m key) es' clk → o.wp P a E.w next Q := by
        intro es' hr hm
        have hc : Chg E.w { E.w with heap := E.w.heap.setIfInBounds b (.map es' clk) } (fun c => (E.ρ i).blk = some c) := (Chg.setObj _).mono (fun c hc => by subst hc; exact hb)
        have hsame := ren_same hs.hs hi rfl hc
        have hs' := hs.setSame (sb' := .map va kt' vt (delM kt' vt m key)) hi rfl hc ⟨b, es', clk, hb, by simp [Array.getElem?_setIfInBounds_self_of_lt (Array.getElem?_eq_some_iff.1 w2).1], hm.mono hsame.fz (fun b hb => hsame.mem b (.inl hb))⟩ rfl (fun _ hid => hid)
        unfold Oper.wp Oper.upon
        have hargs : args.map a.eval = #[.map (some b), v2] := by
         apply Array.ext'
         rw [Array.toList_map, e1]
        have hex : (execOp a.eval o).run P E.w = .ok (.value (.tuple #[])) { E.w with heap := E.w.heap.setIfInBounds b (.map es' clk) } := by
         simp [execOp, ho, resolve, invoke, hargs, hr, builtin]
        rw [hex]
        exact hg (.tup []) _ _ (.tuple #[]) h (by simp [den, denL]) hs'
       have hts0 : ts[0]? = some T := by rw [← Array.getElem?_toList, hts]; rfl
       rcases find_spec hkt w3.rd w3.nodup hkv with ⟨n1, n2, n3⟩ | ⟨j, e, x0, n1, n2, n3, n4, n5, n6, n7⟩
       ·refine fin es ?_ ?_
        ·intro ty
         simp [Builtin.delete_, hts0, run_underlying hT, MapKept.run_getObj_map w2, MapKept.run_checkKey hkt.u (hkt.isKey _ _ _ _ hkv), MapKept.run_findKey hkt.u n1, MapKept.run_setObj_map _ w2, Result.andThen]
        ·rw [delM_none hkt.beq m n3]; exact w3
       ·refine fin (es.eraseIdxIfInBounds j) ?_ ?_
        ·intro ty
         simp [Builtin.delete_, hts0, run_underlying hT, MapKept.run_getObj_map w2, MapKept.run_checkKey hkt.u (hkt.isKey _ _ _ _ hkv), MapKept.run_findKey hkt.u n1, MapKept.run_setObj_map _ w2, Result.andThen]
        ·rw [delM_some hkt.beq m j x0 w3.nodup n4 n5]
         have hj : j < es.size := by
          have := (List.getElem?_eq_some_iff.1 n2).1
          simpa using this
         have hlist : (es.eraseIdxIfInBounds j).toList = es.toList.eraseIdx j := by
          simp [Array.eraseIdxIfInBounds, hj]
         refine ⟨?_, ?_, ?_, ?_, ?_⟩
         ·rw [hlist]; exact rdM_erase m es.toList j w3.rd
         ·rw [map_erase]
          exact w3.nodup.sublist (List.eraseIdx_sublist _ _)
         ·rw [hlist, map_erase]
          exact w3.born.sublist (List.eraseIdx_sublist _ _)
         ·intro e' he'
          rw [hlist] at he'
          exact w3.clk e' (List.mem_of_mem_eraseIdx he')
         ·exact Nat.le_trans (List.length_eraseIdx_le _ _) w3.len
      ·cases h
     ·cases h
    ·cases h
   ·cases h4
  ·cases h4
 ·cases hok
end effects
end Go.V
namespace Go.V
set_option linter.unusedSimpArgs false
set_option linter.unnecessarySimpa false
set_option linter.unusedVariables false
section effects
variable {P : Program} {o : Oper} {S : Start} {s : SS} {E : En} {a : Act} {K : SV → SS → Prop} {next : Act → World → Prop} {Q : Exit → Act → World → Prop} {Γ : List (Nat × Contract)}
theorem ones_spec {l : Option (List SV)} (h : ones l = true) : ∃ l', l = some l' ∧ onesL l' = true := by
 cases l with
 | none => simp [ones] at h
 | some l => exact ⟨l, rfl, h⟩
theorem e_st {n : Nat} {y z : Opd} (hok : okE P o.op (.st n y z) = true) (hdst : o.dst = none) (hs : Sat S s E a) (h : eff Γ (.st n y z) s K) (hg : Goes S a o K next) : o.wp P a E.w next Q := by
 cases ho : o.op <;> simp only [okE, ho] at hok <;> first | cases hok | skip
 rename_i T x v
 simp only [Bool.and_eq_true, beq_iff_eq] at hok
 obtain ⟨⟨h1, h2⟩, h3⟩ := hok
 have g1 := get_sound h1 hs.fr
 have g2 := get_sound h2 hs.fr
 have hrun : ∀ (w w' : World), (Instr.storeAt T (a.eval x) (a.eval v)).run P w = .ok () w' → (execOp a.eval o).run P w = .ok .skip w' := by
  intro w w' hw
  simp [execOp, ho, hw]
 simp only [eff, stores] at h
 generalize s.get y = X at h g1
 split at h
 ·rename_i he
  split at h
  ·rename_i l hl
   obtain ⟨h4, h⟩ := h
   obtain ⟨E', e1, e2, e3, e4, e5⟩ := frzAll_sound (SV.rowsL l) s l E _ hs (flat_cells g2 hl)
   rw [← e1]
   refine st1_sound h3 e2 ?_ ⟨e3, denC_one _ _ e3 (onesL_spec h4)⟩ hg h (hrun _) hdst
   cases X <;> simp [isEl] at he
   simp only [den] at g1 ⊢
   rw [e4, e5]; exact g1
  ·cases h
 ·obtain ⟨h4, h⟩ := h
  obtain ⟨l, hl, h4⟩ := ones_spec h4
  rw [hl] at h
  obtain ⟨E', e1, e2, e3, e4, _, e5⟩ := settle_sound hs g2
  rw [← e1]
  have hnew : NewC E' l (a.eval v) := flat_one e3 hl (onesL_spec h4)
  have go : ∀ X', den E' X' (a.eval x) → st1 n (settle s (s.get z)).2 X' (some l) K → o.wp P a E'.w next Q := fun X' h6 h7 => st1_sound h3 e2 h6 hnew hg h7 (hrun _) hdst
  have hblk : ∀ (i : Nat) cells, (settle s (s.get z)).2.hp[i]? = some (.struct cells) → E'.ρ i = E.ρ i := fun i cells hi => e5 i (by rw [hi]; intro mv eb t xs h; cases h)
  have h' := h
  simp only [st1] at h
  split at h
  ·split at h
   ·rename_i i off _
    split at h
    ·rename_i cells hi
     refine go _ ?_ h'
     simp only [den] at g1 ⊢
     rw [e4, hblk i cells hi]; exact g1
    ·cases h
   ·rename_i hx
    simp [isEl] at hx
   ·rename_i i off m sz _
    split at h
    ·rename_i cells hi
     refine go _ ?_ h'
     simp only [den] at g1 ⊢
     rw [e4, hblk i cells hi]; exact g1
    ·cases h
   ·cases h
  ·cases h
theorem Sat.mov (hs : Sat S s E a) {i : Nat} {mv : Bool} {eb eb' : Nat} {t t' : Ty} {xs : List t.den} {xs' : List t'.den} (hi : s.hp[i]? = some (.row mv eb t xs)) {w' : World} {rv' : RV} (hc : Chg E.w w' (fun b => (E.ρ i).blk = some b))
  (hn : ∀ b, rv'.blk = some b → ((E.ρ i).blk = some b ∨ E.w.heap.size ≤ b) ∧ b < w'.heap.size)
  (ho : SBok { E with ρ := upR E.ρ i rv', w := w' } rv' (.row true eb' t' xs')) : Sat S (movS s i (.row true eb' t' xs')) { E with ρ := upR E.ρ i rv', w := w' } a := by
 have hlt : i < s.hp.length := (List.getElem?_eq_some_iff.1 hi).1
 have hb := hs.hs.upd (sb' := .row true eb' t' xs') (f := but i) (rv' := rv') hi rfl (.inl rfl) hc hn ho rfl
 have he := Ev.upd (sb' := .row true eb' t' xs') (f := but i) (rv' := rv') hi rfl hc (fun b hb => (hn b hb).1)
 exact ⟨hb.1, hs.fr.ren hb.2, hs.ev.trans he, hs.id.set (fun _ _ => trivial) hlt, hs.defers, hs.size⟩
theorem rd_one {w : World} {F : Nat → Prop} : ∀ (t : Ty) (x : t.den) (cs : List Value), rd w F t x cs → ∀ v ∈ cs, v.oneCell' = true
 | .int _, _, cs, h, v, hv => by simp only [rd] at h; obtain ⟨rfl, _⟩ := h; simp at hv; subst hv; rfl
 | .byte, _, cs, h, v, hv => by simp only [rd] at h; subst h; simp at hv; subst hv; rfl
 | .bool, _, cs, h, v, hv => by simp only [rd] at h; subst h; simp at hv; subst hv; rfl
 | .str, _, cs, h, v, hv => by simp only [rd] at h; obtain ⟨rfl, _⟩ := h; simp at hv; subst hv; rfl
 | .sl _ _, _, cs, h, v, hv => by simp only [rd] at h; obtain ⟨u, rfl, h⟩ := h; simp at hv; subst hv; exact slv_one h
 | .pair a b, x, cs, h, v, hv => by
  simp only [rd] at h
  obtain ⟨c1, c2, rfl, h1, h2⟩ := h
  rcases List.mem_append.1 hv with hv | hv
  ·exact rd_one a _ _ h1 v hv
  ·exact rd_one b _ _ h2 v hv
 | .unit, _, cs, h, v, hv => by simp only [rd] at h; subst h; cases hv
 | .any1, _, cs, h, v, hv => by simp only [rd] at h; obtain ⟨u, rfl, h⟩ := h; simp at hv; subst hv; exact h
theorem rdL_one {w : World} {F : Nat → Prop} {t : Ty} : ∀ (xs : List t.den) (cs : List Value), rdL (rd w F t) xs cs → ∀ v ∈ cs, v.oneCell' = true
 | [], cs, h, v, hv => by simp only [rdL] at h; subst h; cases hv
 | x :: xs, cs, h, v, hv => by
  obtain ⟨c1, c2, rfl, h1, h2⟩ := h
  rcases List.mem_append.1 hv with hv | hv
  ·exact rd_one t _ _ h1 v hv
  ·exact rdL_one xs _ h2 v hv
structure SrcOk (P : Program) (w : World) (v : Value) (n sz : Nat) (news : List Value) : Prop where
 len : ∀ w', (Builtin.lenOf v).run P w' = .ok n w'
 cells : ∀ w', w'.heap = w.heap → (Builtin.firstCells sz n v).run P w' = .ok news.toArray w'
theorem src_slice {P : Program} {w : World} {F : Nat → Prop} {eb : Nat} {t : Ty} {xs : List t.den} {v : Value} (h : slv w F (rd w F t) eb t.size xs v) : ∃ news, SrcOk P w v xs.length t.size news ∧ rdL (rd w F t) xs news := by
 rcases h with ⟨rfl, A, c, rfl, _, _⟩ | ⟨b, off, cap, cur, T, fr, cs, rfl, h2, h3, h4, h5, h6, h7, h8⟩
 ·refine ⟨[], ⟨fun w' => by simp [Builtin.lenOf], fun w' _ => ?_⟩, rfl⟩
  cases A with
  | none => simp [Builtin.firstCells]
  | some A => have := run_loadCells_list (P := P) w' A [] (by simp); simpa [Builtin.firstCells] using this
 ·refine ⟨cs, ⟨fun w' => by simp [Builtin.lenOf], fun w' hw => ?_⟩, h8⟩
  obtain ⟨r, h9, _⟩ := take_append_of (a := cs) (b := []) (by rw [h7]; simp)
  have h10 := loadCells_run (P := P) (w := w') (by rw [hw]; exact h3) h9
  rw [rdL_length (rd_length t) xs cs h8] at h10
  simpa [Builtin.firstCells] using h10
theorem src_str {P : Program} {w : World} {F : Nat → Prop} {s : ByteArray} : SrcOk P w (.string s) s.size 1 (s.data.toList.map fun b => .int .u8 (b.toNat : Int)) ∧ rdL (rd w F .byte) (s.data.toList : List UInt8) (s.data.toList.map fun b => .int .u8 (b.toNat : Int)) := by
 refine ⟨⟨fun w' => by simp [Builtin.lenOf], fun w' _ => ?_⟩, ?_⟩
 ·simp only [Builtin.firstCells]
  have e : (s.extract 0 s.size) = s := by simp
  rw [e]
  simp only [Sem.run_pure, Result.ok.injEq, and_true]
  apply Array.ext'; simp
 ·generalize s.data.toList = l
  induction l with
  | nil => rfl
  | cons b l ih => exact ⟨[.int .u8 (b.toNat : Int)], _, rfl, by simp only [rd], ih⟩
theorem srcOf_sound {P : Program} {hp : List SB} {E : En} (h : HS hp E) {x : SV} {v : Value} (hx : den E x v) {t : Ty} {ys : List t.den} (hs : srcOf hp t x = some ys) : ∃ news, SrcOk P E.w v ys.length t.size news ∧ rdL (rd E.w E.Fz t) ys news := by
 have go : ∀ (C : Cont) (hC : cont hp x = some C) (ht : C.t = t), (C.p || t.flat) = true → castT ht C.xs = ys → ∃ news, SrcOk P E.w v ys.length t.size news ∧ rdL (rd E.w E.Fz t) ys news := by
  rintro ⟨p, eb, t', xs⟩ hC ht hp' hys
  simp only at ht hp' hys
  subst ht
  simp only [castT_self] at hys
  subst hys
  have h1 := cont_sound h hx hC
  simp only at h1
  have h2 : ∀ (x : t'.den) c, rd E.w (E.F p) t' x c → rd E.w E.Fz t' x c := by
   intro x c hx
   rcases Bool.or_eq_true _ _ ▸ hp' with rfl | hf
   ·exact rd_mono (fun b hb => hb.elim id (fun h => by cases h.1)) (fun _ _ => rfl) _ x c hx
   ·exact rd_flat _ hf x c hx
  have h3 := slv_mono (F' := fun _ => True) (R' := rd E.w (fun _ => True) t') (fun _ _ => trivial) (fun _ _ => rfl) (fun x c hx => rd_mono (fun _ _ => trivial) (fun _ _ => rfl) _ x c hx) h1
  rcases h1 with ⟨rfl, A, c, rfl, h4, h5⟩ | ⟨b, off, cap, cur, T, fr, cs, rfl, h4, h5, h6, h7, h8, h9, h10⟩
  ·obtain ⟨news, h6, h7⟩ := src_slice (P := P) h3
   exact ⟨news, h6, by simp only [rdL] at h7 ⊢; exact h7⟩
  ·have h11 : slv E.w (fun _ => True) (rd E.w E.Fz t') eb t'.size xs (.slice (some ⟨b, off, none⟩) xs.length cap) := .inr ⟨b, off, cap, cur, T, fr, cs, rfl, trivial, h5, h6, h7, h8, h9, rdL_mono h2 _ _ h10⟩
   refine ⟨cs, ⟨fun w' => by simp [Builtin.lenOf], fun w' hw => ?_⟩, rdL_mono h2 _ _ h10⟩
   obtain ⟨r, h12, _⟩ := take_append_of (a := cs) (b := []) (by rw [h9]; simp)
   have h13 := loadCells_run (P := P) (w := w') (by rw [hw]; exact h5) h12
   rw [rdL_length (rd_length t') xs cs h10] at h13
   simpa [Builtin.firstCells] using h13
 unfold srcOf at hs
 split at hs
 ·cases hs
  simp only [den] at hx
  subst hx
  exact ⟨[], ⟨fun w' => by simp [Builtin.lenOf], fun w' _ => by simp [Builtin.firstCells]⟩, rfl⟩
 ·split at hs
  ·rename_i b ht
   cases hs
   subst ht
   simp only [den] at hx
   obtain ⟨rfl, _⟩ := hx
   have := src_str (P := P) (w := E.w) (F := E.Fz) (s := b)
   simp only [castT_self]
   exact ⟨_, by simpa [Ty.size] using this.1, this.2⟩
  ·cases hs
 ·split at hs
  ·rename_i C hC
   split at hs
   ·rename_i ht
    split at hs
    ·rename_i hp'
     cases hs
     exact go C hC ht hp' rfl
    ·cases hs
   ·cases hs
  ·cases hs
end effects
end Go.V
namespace Go.V
set_option linter.unusedSimpArgs false
set_option linter.unnecessarySimpa false
set_option linter.unusedVariables false
theorem append_run {P : Program} {w : World} {T U ty e : TypeId} {i : TypeInfo} {z : Value} (hT : P.underlying T = some (.slice e)) (hU : (∃ e, P.underlying U = some (.slice e)) ∨ P.underlying U = some .string) (hi : P.info? e = some i) (hz : i.zero = some z)
  (hzs : z.cells.size = i.size) {base : Option Addr} {sLen sCap : Nat} {x : Value} {n : Nat} {news olds : List Value} (hx : SrcOk P w x n i.size news)
  (ho : ∀ w', w'.heap = w.heap → (Builtin.firstCells i.size sLen (.slice base sLen sCap)).run P w' = .ok olds.toArray w') (hb : 1 ≤ i.bytes) (hfit : (sLen + n) * i.bytes ≤ 140737488355328) :
  (sLen + n ≤ sCap → (base = none ∧ (Builtin.append_ #[T, U] ty #[.slice base sLen sCap, x]).run P w = .ok (.slice none (sLen + n) sCap) w) ∨ ∃ a, base = some a ∧
   ∀ w', (storeCells (a.add (sLen * i.size)) news).run P w = .ok () w' → (Builtin.append_ #[T, U] ty #[.slice base sLen sCap, x]).run P w = .ok (.slice (some a) (sLen + n) sCap) w') ∧
  (sCap < sLen + n → ∃ cap, sLen + n ≤ cap ∧ cap ≤ maxLen ∧ (Builtin.append_ #[T, U] ty #[.slice base sLen sCap, x]).run P w =
   .ok (.slice (some ⟨w.heap.size, 0, none⟩) (sLen + n) cap) (w.drew.alloc (.cells (olds.toArray ++ news.toArray ++ Builtin.zeroCells z.cells (cap - (sLen + n))) e))) := by
 refine ⟨fun hroom => ?_, fun hgrow => ?_⟩
 ·have hf := hx.cells w rfl
  cases base with
  | none =>
   refine .inl ⟨rfl, ?_⟩
   rcases hU with ⟨e', hU⟩ | hU <;> simp [Builtin.append_, run_underlying hT, run_underlying hU, sizeOf, typeInfo, hi, hx.len, hroom, hf]
  | some A =>
   refine .inr ⟨A, rfl, fun w' hw' => ?_⟩
   rcases hU with ⟨e', hU⟩ | hU <;> simp [Builtin.append_, run_underlying hT, run_underlying hU, sizeOf, typeInfo, hi, hx.len, hroom, hf, hw']
 ·have hle : sLen + n ≤ 140737488355328 := Nat.le_trans (Nat.le_mul_of_pos_right _ hb) hfit
  refine ⟨grownCap w (sLen + n) sCap e, grownCap_ge _ _ _ _, grownCap_le_maxLen _ _ _ _ (by simp only [maxLen]; omega), ?_⟩
  have hn : ¬ (sLen + n ≤ sCap) := by omega
  have h63' : ¬ (9223372036854775807 < ((sLen : Int) + (n : Int))) := by omega
  have h48' : ¬ (281474976710656 < Builtin.nextslicecap (sLen + n) sCap * i.bytes) := by have := growslice_fits hgrow hfit; omega
  have hf := hx.cells w.drew rfl
  have hfo := ho w.drew rfl
  rcases hU with ⟨e', hU⟩ | hU <;>
   simp [Builtin.append_, run_underlying hT, run_underlying hU, sizeOf, typeInfo, zeroValue, hi, hz, hx.len, hn, h63', h48', Question.forced, hf, hfo, newRow, grownCap] <;>
   (congr 2; apply Array.ext'; simp)
theorem splice_app {α : Type} (M V : List α) (off L : Nat) (h1 : off + L + V.length ≤ M.length) :
  ((M.take (off + L) ++ V ++ M.drop (off + L + V.length)).drop off).take (L + V.length) = (M.drop off).take L ++ V := by
 apply List.ext_getElem?
 intro j
 simp only [List.getElem?_take, List.getElem?_append, List.getElem?_drop, List.length_take, List.length_append, List.length_drop]
 grind
theorem ownv_bound {α : Type} {w : World} {R : α → List Value → Prop} {rv : RV} {eb sz : Nat} {xs : List α} (h : ownv w R rv eb sz xs) : xs.length * eb ≤ 140737488355328 := by
 rcases h with ⟨_, _, rfl⟩ | ⟨b, off, cap, cur, T, fr, cs, h1, h2, h3, h4, h5, h6, h7, h8, h9, h10⟩
 ·simp
 ·exact h8
theorem slv_bound {α : Type} {w : World} {F : Nat → Prop} {R : α → List Value → Prop} {eb sz : Nat} {xs : List α} {v : Value} (h : slv w F R eb sz xs v) : xs.length * eb ≤ 140737488355328 := by
 rcases h with ⟨rfl, _⟩ | ⟨b, off, cap, cur, E, fr, cs, h1, h2, h3, h4, h5, h6, h7, h8⟩
 ·simp
 ·exact h6
theorem srcH_sound {hp : List SB} {E : En} (h : HS hp E) {x : SV} {v : Value} (hx : den E x v) : srcH hp x := by
 unfold srcH
 split
 ·simp only [den] at hx; exact hx.2
 ·split
  ·rename_i C hC
   exact slv_bound (cont_sound h hx hC)
  ·trivial
section effects
variable {P : Program} {o : Oper} {S : Start} {s : SS} {E : En} {a : Act} {K : SV → SS → Prop} {next : Act → World → Prop} {Q : Exit → Act → World → Prop} {Γ : List (Nat × Contract)}
theorem own_append {w : World} {F : Nat → Prop} {T U ty e : TypeId} {i : TypeInfo} {z : Value} (hT : P.underlying T = some (.slice e)) (hU : (∃ e, P.underlying U = some (.slice e)) ∨ P.underlying U = some .string) (hi : P.info? e = some i) (hz : i.zero = some z)
  {t : Ty} (hzs : z.cells.size = i.size) (hsz : i.size = t.size) (hsz0 : t.size ≠ 0) {rv : RV} {eb : Nat} (heb : i.bytes = eb) (hebk : ebOk eb e = true) (hb : 1 ≤ eb) {xs ys : List t.den} (hown : ownv w (rd w F t) rv eb t.size xs) {x : Value} {news : List Value}
  (hx : SrcOk P w x ys.length t.size news) (hnews : rdL (rd w F t) ys news) (hfit : (xs.length + ys.length) * eb ≤ 140737488355328) (hF : ∀ b, F b → b < w.heap.size ∧ rv.blk ≠ some b) :
  ∃ rv' w', (Builtin.append_ #[T, U] ty #[rv.val, x]).run P w = .ok rv'.val w' ∧ Chg w w' (fun b => rv.blk = some b) ∧ (∀ b, rv'.blk = some b → rv.blk = some b ∨ (w.heap.size ≤ b ∧ b < w'.heap.size)) ∧
   ownv w' (rd w' F t) rv' eb t.size (xs ++ ys) ∧ rv'.val.oneCell' = true := by
 subst heb
 have hxn := hx
 rw [← hsz] at hx
 have hln := rdL_length (rd_length t) ys news hnews
 have grow : ∀ (base : Option Addr) (sCap : Nat) (olds : List Value), rv.val = .slice base xs.length sCap → (∀ w', w'.heap = w.heap → (Builtin.firstCells i.size xs.length (.slice base xs.length sCap)).run P w' = .ok olds.toArray w') →
   rdL (rd w F t) xs olds → sCap < xs.length + ys.length → ∃ rv' w', (Builtin.append_ #[T, U] ty #[rv.val, x]).run P w = .ok rv'.val w' ∧ Chg w w' (fun b => rv.blk = some b) ∧ (∀ b, rv'.blk = some b → rv.blk = some b ∨ (w.heap.size ≤ b ∧ b < w'.heap.size)) ∧
   ownv w' (rd w' F t) rv' i.bytes t.size (xs ++ ys) ∧ rv'.val.oneCell' = true := by
  intro base sCap olds hv ho hro hg
  obtain ⟨cap, h1, h2, h3⟩ := (append_run (ty := ty) hT hU hi hz hzs hx ho hb hfit).2 hg
  rw [hv]
  have hchg : Chg w (w.drew.alloc (.cells (olds.toArray ++ news.toArray ++ Builtin.zeroCells z.cells (cap - (xs.length + ys.length))) e)) (fun _ => False) := (Chg.drew w).trans (Chg.alloc w.drew _)
  refine ⟨⟨some w.heap.size, .slice (some ⟨w.heap.size, 0, none⟩) (xs.length + ys.length) cap⟩, _, h3, hchg.mono (fun _ h => h.elim), fun b hb => (by cases hb; right; simp), ?_, rfl⟩
  have hlo := rdL_length (rd_length t) xs olds hro
  refine .inr ⟨w.heap.size, 0, cap, olds.toArray ++ news.toArray ++ Builtin.zeroCells z.cells (cap - (xs.length + ys.length)), e, (0, 0), _, by rw [List.length_append], rfl, ?_, ⟨.inl rfl, ebOk.of hebk⟩, by rw [List.length_append]; exact h1, h2, ?_, by rw [List.length_append]; exact hfit, rfl, ?_⟩
  ·exact heap_alloc_new w.drew _
  ·simp only [Array.size_append, List.size_toArray, size_zeroCells, hlo, hln, hzs, hsz, Nat.zero_add]
   rw [← Nat.add_mul, ← Nat.add_mul]
   exact Nat.mul_le_mul_right _ (by omega)
  ·have e1 : ((olds.toArray ++ news.toArray ++ Builtin.zeroCells z.cells (cap - (xs.length + ys.length))).toList.drop 0).take ((xs ++ ys).length * t.size) = olds ++ news := by
    have : (xs ++ ys).length * t.size = (olds ++ news).length := by rw [List.length_append, List.length_append, hlo, hln, Nat.add_mul]
    rw [this, List.drop_zero, Array.toList_append, Array.toList_append]
    exact List.take_left' (by simp)
   rw [e1]
   exact rdL_append _ _ _ _ (rdL_mono (fun x c hx => rd_mono (fun _ h => h) (fun b hb => hchg.keep b (hF b hb).1 (fun h => h)) t x c hx) _ _ hro) (rdL_mono (fun x c hx => rd_mono (fun _ h => h) (fun b hb => hchg.keep b (hF b hb).1 (fun h => h)) t x c hx) _ _ hnews)
 rcases hown with ⟨⟨ad, h1⟩, h2, rfl⟩ | ⟨b, off, cap, cur, T', fr, cs, h1, h2, h3, h4, h5, h6, h7, h8, h9, h10⟩
 ·have ho : ∀ w', w'.heap = w.heap → (Builtin.firstCells i.size 0 (.slice ad 0 0)).run P w' = .ok (#[] : Array Value) w' := by
   intro w' _
   cases ad with
   | none => simp [Builtin.firstCells]
   | some A => have := run_loadCells_list (P := P) w' A [] (by simp); simpa [Builtin.firstCells] using this
  by_cases hy : ys.length = 0
  ·have hys : ys = [] := List.length_eq_zero_iff.1 hy
   subst hys
   have hn0 : news = [] := by simpa using hln
   subst hn0
   have h11 := (append_run (ty := ty) hT hU hi hz hzs hx (olds := []) ho hb hfit).1 (by simp)
   rw [h1]
   rcases h11 with ⟨rfl, h12⟩ | ⟨A, rfl, h12⟩
   ·exact ⟨⟨none, .slice none 0 0⟩, w, by simpa using h12, Chg.refl _ _, fun b hb => (by cases hb), .inl ⟨⟨none, rfl⟩, rfl, rfl⟩, rfl⟩
   ·have := h12 w (by simp [storeCells])
    exact ⟨⟨none, .slice (some A) 0 0⟩, w, by simpa using this, Chg.refl _ _, fun b hb => (by cases hb), .inl ⟨⟨some A, rfl⟩, rfl, rfl⟩, rfl⟩
  ·exact grow ad 0 [] h1 ho rfl (by simp; omega)
 ·have hr : ∃ r, cur.toList.drop off = cs ++ r := by
   obtain ⟨r, h, _⟩ := take_append_of (a := cs) (b := []) (by rw [h9]; simp)
   exact ⟨r, h⟩
  obtain ⟨r, hr⟩ := hr
  have hlc := rdL_length (rd_length t) xs cs h10
  have ho : ∀ w', w'.heap = w.heap → (Builtin.firstCells i.size xs.length (.slice (some ⟨b, off, none⟩) xs.length cap)).run P w' = .ok cs.toArray w' := by
   intro w' hw
   have := loadCells_run (P := P) (w := w') (by rw [hw]; exact h3) hr
   rw [hlc, ← hsz] at this
   simpa [Builtin.firstCells] using this
  by_cases hroom : xs.length + ys.length ≤ cap
  ·have h11 := (append_run (ty := ty) hT hU hi hz hzs hx ho hb hfit).1 hroom
   rcases h11 with ⟨h0, _⟩ | ⟨A, hA, h12⟩
   ·cases h0
   ·cases hA
    have hle : xs.length * t.size + ys.length * t.size ≤ cap * t.size := by rw [← Nat.add_mul]; exact Nat.mul_le_mul_right _ hroom
    have hst := run_storeCells_nf P b (off + xs.length * t.size) T' fr news 0 cur w h3 h4.1 (by rw [hln]; omega) (rdL_one ys news hnews)
    have hadd : (⟨b, off, none⟩ : Addr).add (xs.length * i.size) = ⟨b, off + xs.length * t.size, none⟩ := by rw [hsz]; unfold Addr.add; split <;> simp_all
    rw [← hadd, Nat.add_zero] at hst
    have h13 := h12 _ hst
    rw [h1]
    have hchg : Chg w (w.setRow b (cur.toList.take (off + xs.length * t.size) ++ news ++ cur.toList.drop (off + xs.length * t.size + news.length)).toArray) (fun c => rv.blk = some c) := (Chg.setRow _ _ _).mono (fun c hc => by subst hc; exact h2)
    have hsize : (cur.toList.take (off + xs.length * t.size) ++ news ++ cur.toList.drop (off + xs.length * t.size + news.length)).toArray.size = cur.size := by
     simp; omega
    refine ⟨⟨some b, _⟩, _, h13, hchg, fun c hc => .inl (by cases hc; exact h2), .inr ⟨b, off, cap, _, T', fr, _, by rw [List.length_append], rfl, setRow_heap _ _ _ _ _ _ h3, by rw [hsize]; exact h4, by rw [List.length_append]; exact hroom, h6, by rw [hsize]; exact h7, by rw [List.length_append]; exact hfit, rfl, ?_⟩, rfl⟩
    have e1 := splice_app cur.toList news off (xs.length * t.size) (by rw [hln]; simp; omega)
    rw [h9] at e1
    have e2 : (xs ++ ys).length * t.size = xs.length * t.size + news.length := by rw [List.length_append, hln, Nat.add_mul]
    rw [e2]
    show rdL _ _ (((cur.toList.take (off + xs.length * t.size) ++ news ++ cur.toList.drop (off + xs.length * t.size + news.length)).drop off).take (xs.length * t.size + news.length))
    rw [e1]
    have mono := fun (x : t.den) c hx => rd_mono (fun _ h => h) (fun b hb => hchg.keep b (hF b hb).1 (hF b hb).2) t x c hx
    exact rdL_append _ _ _ _ (rdL_mono mono _ _ h10) (rdL_mono mono _ _ hnews)
  ·exact grow (some ⟨b, off, none⟩) cap cs h1 ho h10 (by omega)
theorem e_app {eb : Nat} {t : Ty} {y z : Opd} (hok : okE P o.op (.app eb t y z) = true) (hs : Sat S s E a) (h : eff Γ (.app eb t y z) s K) (hg : Goes S a o K next) : o.wp P a E.w next Q := by
 simp only [okE] at hok
 split at hok
 ·rename_i args ts ho
  simp only [Bool.and_eq_true] at hok
  obtain ⟨h1, hok⟩ := hok
  obtain ⟨x, x', hargs, hx1, hx2⟩ := okOpds2 (a := a) h1
  split at hok
  ·rename_i T U hts
   simp only [Bool.and_eq_true, Bool.or_eq_true] at hok
   obtain ⟨hok, hU⟩ := hok
   have hUu : (∃ e, P.underlying U = some (.slice e)) ∨ P.underlying U = some .string := hU.imp okKind_s okKind_i
   split at hok
   ·rename_i e hT
    split at hok
    ·rename_i i hi
     simp only [Bool.and_eq_true, beq_iff_eq, bne_iff_ne, ne_eq] at hok
     obtain ⟨⟨⟨⟨⟨hebk, hsz⟩, hby⟩, hsz0⟩, hb0⟩, hzz⟩ := hok
     split at hzz
     ·rename_i zv hz
      have hzs : zv.cells.size = i.size := by rw [hsz]; simpa using hzz
      have g1 := get_sound hx1 hs.fr
      have g2 := get_sound hx2 hs.fr
      have hrun : ∀ {w w' : World} {v : Value}, (Builtin.append_ #[T, U] o.type #[a.eval x, a.eval x']).run P w = .ok v w' → (execOp a.eval o).run P w = .ok (.value v) w' := by
       intro w w' v hw
       have ha2 : args = #[x, x'] := by apply Array.ext'; simpa using hargs
       have ht2 : ts = #[T, U] := by apply Array.ext'; simpa using hts
       subst ha2; subst ht2
       obtain ⟨cs, hc⟩ := call_run (P := P) (a := a) (w := w) ho
       rw [hc]
       simp [builtin, hw]
      simp only [eff] at h
      obtain ⟨E', e1, e2, e3, e4, e5, e6⟩ := settle_sound hs g1
      cases hys : srcOf s.hp t (s.get z) with
      | none => rw [hys] at h; exact h.elim
      | some ys =>
       rw [hys] at h
       obtain ⟨news, hsrc, hnews⟩ := srcOf_sound (P := P) hs.hs g2 hys
       have hH : srcH s.hp (s.get z) := srcH_sound hs.hs g2
       generalize srcH s.hp (s.get z) = H at h hH
       rw [← e1] at hsrc hnews ⊢
       rw [← e5] at hnews
       generalize settle s (s.get y) = R at h e2 e3 e6
       obtain ⟨X, s'⟩ := R
       simp only at h e2 e3 e6
       simp only [app1] at h
       split at h
       ·-- behind nothing
        obtain ⟨hfit, hk⟩ := h
        have hfit := hfit hH
        have hk := hk hfit
        simp only [den] at e3
        have hown : ownv E'.w (rd E'.w E'.Fz t) ⟨none, .slice none 0 0⟩ eb t.size ([] : List t.den) := .inl ⟨⟨none, rfl⟩, rfl, rfl⟩
        obtain ⟨rv', w', r1, r2, r3, r4, r5⟩ := own_append (ty := o.type) hT hUu hi hz hzs hsz hsz0 hby hebk (by omega) hown hsrc hnews (by simpa using hfit) (fun b hb => ⟨e2.hs.old b (.inl hb), by simp⟩)
        rw [← e3] at r1
        have r2' : Chg E'.w w' (fun _ => False) := r2.mono (fun b hb => by cases hb)
        have hs' := e2.push (b' := .row true eb t ys) (rv' := rv') r2' (fun b hb => (r3 b hb).resolve_left (by simp)) (by show ownv w' (rd w' E'.Fz t) rv' eb t.size ys; simpa using r4)
        refine goes_value hg hk ?_ hs' (hrun r1)
        simp only [den]
        refine ⟨by show s'.hp.length < E'.N + 1; have := e2.hs.n; omega, ?_, r5⟩
        show _ = (upR E'.ρ E'.N _ s'.hp.length).val
        rw [← e2.hs.n, upd_same]
       ·rename_i i'
        split at h
        ·rename_i mv eb' t' xs hi'
         split at h
         ·rename_i ht
          subst ht
          obtain ⟨heb', hfit, hk⟩ := h
          subst heb'
          simp only [castT_self] at hk
          simp only [den] at e3
          have hown := e2.hs.ok i' _ hi'
          have hfit := hfit hH (ownv_bound hown)
          have hk := hk hfit
          obtain ⟨rv', w', r1, r2, r3, r4, r5⟩ := own_append (ty := o.type) hT hUu hi hz hzs hsz hsz0 hby hebk (by omega) hown hsrc hnews hfit (fun b hb => ⟨e2.hs.old b (.inl hb), fun hx => (e2.hs.own b ⟨i', _, hi', rfl, hx⟩).2.1 hb⟩)
          rw [← e3.2.1] at r1
          have hs' := e2.mov (t' := t') (eb' := eb') (xs' := xs ++ ys) hi' (rv' := rv') r2 (fun b hb => by
           rcases r3 b hb with h | h
           ·exact ⟨.inl h, Nat.lt_of_lt_of_le (e2.hs.own b ⟨i', _, hi', rfl, h⟩).1 r2.size⟩
           ·exact ⟨.inr h.1, h.2⟩) r4
          refine goes_value hg hk ?_ hs' (hrun r1)
          simp only [den]
          refine ⟨e3.1, ?_, r5⟩
          show _ = (upR E'.ρ i' _ i').val
          rw [upd_same]
         ·cases h
        ·cases h
       ·cases h
     ·cases hzz
    ·cases hok
   ·cases hok
  ·cases hok
 ·cases hok
end effects
end Go.V
namespace Go.V
set_option linter.unusedSimpArgs false
set_option linter.unnecessarySimpa false
set_option linter.unusedVariables false
def sw (b : Bool) (A B : Prop) : Prop :=
 match b with
 | true => A
 | false => B
theorem sw_intro {b : Bool} {A B : Prop} (h1 : b = true → A) (h2 : b = false → B) : sw b A B := by
 cases b
 ·exact h2 rfl
 ·exact h1 rfl
theorem sw_true {b : Bool} {A B : Prop} (h : sw b A B) (hb : b = true) : A := by subst hb; exact h
theorem sw_false {b : Bool} {A B : Prop} (h : sw b A B) (hb : b = false) : B := by subst hb; exact h
def gI (k : IntKind) (n : Int) (K : SV → Prop) : Prop := ∀ m : Int, m = n → K (.int k m)
def gB (b : Bool) (K : SV → Prop) : Prop := ∀ c : Bool, c = b → K (.bool c)
def gS (t : ByteArray) (K : SV → Prop) : Prop := ∀ u : ByteArray, u = t → K (.str u)
def pickC (c a b : SV) (K : SV → Prop) : Prop :=
 match c with
 | .bool c => sw c (K a) (K b)
 | _ => False
def nckC (x : SV) (K : SV → Prop) : Prop :=
 match x with
 | .ptr i off => K (.ptr i off)
 | .el i n sz off => K (.el i n sz off)
 | .rel p eb t xs n off => K (.rel p eb t xs n off)
 | .fn f caps => K (.fn f caps)
 | .pty i T => K (.pty i T)
 | _ => False
def optC (x : Option SV) (K : SV → Prop) : Prop :=
 match x with
 | some v => K v
 | none => False
def aggO (x : Option (List SV)) : Option SV :=
 match x with
 | some l => some (.agg l)
 | none => none
def headO (x : Option (List SV)) : Option SV :=
 match x with
 | some l => headC l
 | none => none
def takeO (x : Option (List SV)) (n : Nat) : Option SV :=
 match x with
 | some l => aggO (takeC l n)
 | none => none
def fldV (off : Nat) (n : Option Nat) (x : SV) : Option SV :=
 match x with
 | .agg l => match n with
  | none => headO (dropC l off)
  | some n => takeO (dropC l off) n
 | _ => none
def faC (off : Nat) (x : SV) (K : SV → Prop) : Prop :=
 match x with
 | .ptr i o => K (.ptr i (o + off))
 | .el i n sz o => K (.el i n sz (o + off))
 | .rel p eb t xs n o => K (.rel p eb t xs n (o + off))
 | .ptrA i o n sz => K (.ptrA i (o + off) n sz)
 | .pty i _ => K (.ptr i off)
 | _ => False
def iaC (hp : List SB) (sz : Nat) (x i : SV) (K : SV → Prop) : Prop :=
 match i with
 | .int _ n => match x with
  | .sl p eb t xs => sz = t.size ∧ (0 ≤ n ∧ n < xs.length) ∧ ((0 ≤ n ∧ n < xs.length) → ∀ m : Nat, m = n.toNat → K (.rel p eb t xs m 0))
  | .own j => match hp[j]? with
   | some (.row _ _ _ xs) => (0 ≤ n ∧ n < xs.length) ∧ ((0 ≤ n ∧ n < xs.length) → ∀ m : Nat, m = n.toNat → K (.el j m sz 0))
   | _ => False
  | .vw j lo hi sz' => match hp[j]? with
   | some (.row _ _ t xs) => (sz = sz' ∧ sz = t.size) ∧ (0 ≤ n ∧ lo + n < hi ∧ hi ≤ xs.length) ∧ ((0 ≤ n ∧ lo + n < hi ∧ hi ≤ xs.length) → ∀ m : Nat, m = lo + n.toNat → K (.el j m sz 0))
   | _ => False
  | _ => False
 | _ => False
def iaAC (len sz : Nat) (x i : SV) (K : SV → Prop) : Prop :=
 match i with
 | .int _ n => match x with
  | .ptr j off => (0 ≤ n ∧ n < len) ∧ ((0 ≤ n ∧ n < len) → ∀ m : Nat, m = n.toNat → K (.ptrA j off m sz))
  | _ => False
 | _ => False
def ixC (x i : SV) (K : SV → Prop) : Prop :=
 match x with
 | .str b => match i with
  | .int _ n => (0 ≤ n ∧ n < b.size) ∧ ((0 ≤ n ∧ n < b.size) → gI .u8 ((b.data.toList.getD n.toNat 0).toNat : Int) K)
  | _ => False
 | _ => False
def ldC (hp : List SB) (x : SV) (n : Option Nat) (K : SV → Prop) : Prop :=
 match x with
 | .ptr i off => match hp[i]? with
  | some (.struct cells) => match n with
   | none => optC (headO (dropC cells off)) K
   | some n => optC (takeO (dropC cells off) n) K
  | _ => False
 | x => match seen hp x with
  | some (need, l) => need ∧ (need → match n with
   | none => optC (headC l) K
   | some n => optC (aggO (takeC l n)) K)
  | none => False
def qrC (q : Option QR) (K : SV → Prop) : Prop :=
 match q with
 | some q => q.need ∧ (q.need → q.hyp → K q.val)
 | none => False
def binC (op : BinOp) (k k' : IntKind) (a b : Int) (K : SV → Prop) : Prop :=
 match op with
 | .shl => 0 ≤ b ∧ (0 ≤ b → inR k a → inR k' b → gI k (k.wrap (a * 2 ^ (min b.toNat k.bits))) K)
 | .shr => 0 ≤ b ∧ (0 ≤ b → inR k a → inR k' b → gI k (a.fdiv (2 ^ (min b.toNat k.bits))) K)
 | .add => k = k' ∧ (inR k a → inR k b → gI k (k.wrap (a + b)) K)
 | .sub => k = k' ∧ (inR k a → inR k b → gI k (k.wrap (a - b)) K)
 | .mul => k = k' ∧ (inR k a → inR k b → gI k (k.wrap (a * b)) K)
 | .quo => k = k' ∧ b ≠ 0 ∧ (b ≠ 0 → inR k a → inR k b → gI k (k.wrap (a.tdiv b)) K)
 | .rem => k = k' ∧ b ≠ 0 ∧ (b ≠ 0 → inR k a → inR k b → gI k (a.tmod b) K)
 | .and => k = k' ∧ (inR k a → inR k b → gI k (bitsI .and k a b) K)
 | .or => k = k' ∧ (inR k a → inR k b → gI k (bitsI .or k a b) K)
 | .xor => k = k' ∧ (inR k a → inR k b → gI k (bitsI .xor k a b) K)
 | .andNot => k = k' ∧ (inR k a → inR k b → gI k (bitsI .andNot k a b) K)
 | .eql => k = k' ∧ gB (decide (a = b)) K
 | .neq => k = k' ∧ gB (!decide (a = b)) K
 | .lss => k = k' ∧ gB (decide (a < b)) K
 | .leq => k = k' ∧ gB (decide (a ≤ b)) K
 | .gtr => k = k' ∧ gB (decide (b < a)) K
 | .geq => k = k' ∧ gB (decide (b ≤ a)) K
def binSC (op : BinOp) (a b : ByteArray) (K : SV → Prop) : Prop :=
 match op with
 | .add => a.size + b.size ≤ maxLen ∧ gS (a ++ b) K
 | .eql => gB (decide (a = b)) K
 | .neq => gB (!decide (a = b)) K
 | .lss => gB (ltS a b) K
 | .leq => gB (ltS a b || decide (a = b)) K
 | .gtr => gB (!(ltS a b || decide (a = b))) K
 | .geq => gB (!ltS a b) K
 | _ => False
def binV (op : BinOp) (x y : SV) (K : SV → Prop) : Prop :=
 match x with
 | .int k a => match y with
  | .int k' b => binC op k k' a b K
  | _ => False
 | .str a => match y with
  | .str b => binSC op a b K
  | _ => False
 | _ => False
def eqnC (ng : Bool) (k : NK) (x y : SV) (K : SV → Prop) : Prop :=
 match k with
 | .p => match x with
  | .nilp => match y with
   | .nilp => K (.bool (!ng))
   | .ptr _ _ => K (.bool ng)
   | _ => False
  | .ptr _ _ => match y with
   | .nilp => K (.bool ng)
   | _ => False
  | _ => False
 | .s => match x with
  | .nils => match y with
   | .nils => K (.bool (!ng))
   | _ => False
  | _ => False
 | .m => match x with
  | .nilm => match y with
   | .nilm => K (.bool (!ng))
   | _ => False
  | .mp _ => match y with
   | .nilm => K (.bool ng)
   | _ => False
  | _ => False
 | .f => match x with
  | .nilf => match y with
   | .nilf => K (.bool (!ng))
   | _ => False
  | .fn _ _ => match y with
   | .nilf => K (.bool ng)
   | _ => False
  | _ => False
 | .i => False
def notC (x : SV) (K : SV → Prop) : Prop :=
 match x with
 | .bool b => K (.bool (!b))
 | _ => False
def binBC (ng : Bool) (x y : SV) (K : SV → Prop) : Prop :=
 match x with
 | .bool a => match y with
  | .bool b => gB (bif ng then !(a == b) else (a == b)) K
  | _ => False
 | _ => False
def eqOC (ng : Bool) (o : Option Bool) (K : SV → Prop) : Prop :=
 match o with
 | some b => gB (bif ng then !b else b) K
 | none => False
def eqSC (ng : Bool) (ts : List Ty) (x y : SV) (K : SV → Prop) : Prop :=
 match x with
 | .agg l => match y with
  | .agg l' => eqOC ng (eqL ts l l') K
  | _ => False
 | _ => False
def eqRC (ng : Bool) (n : Nat) (x y : SV) (K : SV → Prop) : Prop :=
 match x with
 | .agg [.arr m (.int k) xs] => match y with
  | .agg [.arr m' (.int k') ys] => (m = n ∧ m' = n ∧ k = k') ∧ gB (bif ng then !(decide ((xs : List Int) = ys)) else (decide ((xs : List Int) = ys))) K
  | _ => False
 | _ => False
def negC (x : SV) (K : SV → Prop) : Prop :=
 match x with
 | .int k n => inR k n → gI k (k.wrap (0 - n)) K
 | _ => False
def cvC (k : IntKind) (x : SV) (K : SV → Prop) : Prop :=
 match x with
 | .int k' n => inR k' n → gI k (k.wrap n) K
 | _ => False
def b2sC (hp : List SB) (x : SV) (K : SV → Prop) : Prop :=
 match x with
 | .nils => K (.str ByteArray.empty)
 | y => match cont hp y with
  | some ⟨_, _, .byte, xs⟩ => gS ⟨(xs : List UInt8).toArray⟩ K
  | _ => False
def extC (x : SV) (i : Nat) (K : SV → Prop) : Prop :=
 match x with
 | .tup l => optC (l[i]?) K
 | _ => False
def lenC (hp : List SB) (k : NK) (x : SV) (K : SV → Prop) : Prop :=
 match k with
 | .i => match x with
  | .str b => b.size ≤ maxLen → gI .i64 b.size K
  | _ => False
 | .m => match x with
  | .nilm => K (.int .i64 0)
  | .mp i => match hp[i]? with
   | some (.map _ _ _ m) => m.length ≤ maxLen → gI .i64 m.length K
   | _ => False
  | _ => False
 | .s => match x with
  | .nils => K (.int .i64 0)
  | y => match cont hp y with
   | some C => C.xs.length ≤ maxLen → C.xs.length * C.eb ≤ 140737488355328 → gI .i64 C.xs.length K
   | none => False
 | _ => False
def mmC (mx : Bool) (x y : SV) (K : SV → Prop) : Prop :=
 match x with
 | .int k a => match y with
  | .int k' b => k = k' ∧ gI k (bif mx then (if a < b then b else a) else (if b < a then b else a)) K
  | _ => False
 | _ => False
def lkV (va : Bool) (vt : Ty) (x : Option vt.den) (ok : Bool) (K : SV → Prop) : Prop :=
 ∀ (y : vt.den) (b : Bool), y = x.getD vt.dflt → b = x.isSome → match toV va true vt y with
  | some z => match ok with
   | true => K (.tup [z, .bool b])
   | false => K z
  | none => False
def lkC2 (hp : List SB) (va : Bool) (kt vt : Ty) (ok : Bool) (x k : SV) (K : SV → Prop) : Prop :=
 match x with
 | .nilm => match kt.keyOf k with
  | some _ => lkV va vt none ok K
  | none => False
 | .mp i => match hp[i]? with
  | some (.map va' kt' vt' m) => (va' = va ∧ kt' = kt ∧ vt' = vt) ∧ (match kt'.keyOf k with
   | some key => lkV va' vt' (lookM kt' vt' m key) ok K
   | none => False)
  | _ => False
 | _ => False
def bdC (s : SS) (d : Int) (o : Option Opd) (K : Int → Prop) : Prop :=
 match o with
 | none => K d
 | some x => match s.get x with
  | .int _ n => K n
  | _ => False
theorem bdC_spec {s : SS} {d : Int} {o : Option Opd} {K : Int → Prop} (h : bdC s d o K) : ∃ n, bound s d o = some n ∧ K n := by
 unfold bdC at h
 split at h
 ·exact ⟨d, rfl, h⟩
 ·rename_i x
  split at h
  ·rename_i k n hx
   exact ⟨n, by simp only [bound, hx], h⟩
  ·cases h
def slRO (s : SS) (sz j : Nat) (b : Option SB) (lo hi : Option Opd) (K : SV → Prop) : Prop :=
 match b with
 | some (.row _ _ t xs) => sz = t.size ∧ bdC s 0 lo fun l => bdC s xs.length hi fun h => (0 ≤ l ∧ l ≤ h ∧ h ≤ xs.length) ∧
   (0 ≤ l → l ≤ h → h ≤ xs.length → ∀ a b : Nat, a = l.toNat → b = h.toNat → K (.vw j a b sz))
 | _ => False
def slRV (s : SS) (sz sz' j a b : Nat) (r : Option SB) (lo hi : Option Opd) (K : SV → Prop) : Prop :=
 match r with
 | some (.row _ _ t xs) => (sz = sz' ∧ sz = t.size) ∧ bdC s 0 lo fun l => bdC s ((b - a : Nat) : Int) hi fun h => (0 ≤ l ∧ l ≤ h ∧ h ≤ ((b - a : Nat) : Int)) ∧
   (0 ≤ l → l ≤ h → h ≤ ((b - a : Nat) : Int) → ∀ a' b' : Nat, a' = a + l.toNat → b' = a + h.toNat → K (.vw j a' b' sz))
 | _ => False
def slRC (s : SS) (sz : Nat) (x : SV) (lo hi : Option Opd) (K : SV → Prop) : Prop :=
 match x with
 | .nils => bdC s 0 lo fun l => bdC s 0 hi fun h => (l = 0 ∧ h = 0) ∧ (l = 0 → h = 0 → K .nils)
 | .sl p eb t xs => sz = t.size ∧ bdC s 0 lo fun l => bdC s xs.length hi fun h => (0 ≤ l ∧ l ≤ h ∧ h ≤ xs.length) ∧
   (0 ≤ l → l ≤ h → h ≤ xs.length → ∀ ys, ys = (xs.drop l.toNat).take (h.toNat - l.toNat) → K (.sl p eb t ys))
 | .own j => slRO s sz j (s.hp[j]?) lo hi K
 | .vw j a b sz' => slRV s sz sz' j a b (s.hp[j]?) lo hi K
 | _ => False
def slSC (s : SS) (x : SV) (lo hi : Option Opd) (K : SV → Prop) : Prop :=
 match x with
 | .str b => bdC s 0 lo fun l => bdC s b.size hi fun h => (0 ≤ l ∧ l ≤ h ∧ h ≤ b.size) ∧ (0 ≤ l → l ≤ h → h ≤ b.size → gS (b.extract l.toNat h.toNat) K)
 | _ => False
def cvSC (x : SV) (K : SV → Prop) : Prop :=
 match x with
 | .str b => K (.str b)
 | _ => False
def ixAC (len : Nat) (x i : SV) (K : SV → Prop) : Prop :=
 match ixAV len x i with
 | some p => p.1 ∧ (p.1 → K p.2)
 | none => False
def evC (o : AOp) (s : SS) (K : SV → Prop) : Prop :=
 match o with
 | .mv x => K (s.get x)
 | .pick c a b => pickC (s.get c) (s.get a) (s.get b) K
 | .nck x => nckC (s.get x) K
 | .fld off n x => optC (fldV off n (s.get x)) K
 | .fa off x => faC off (s.get x) K
 | .ia sz x i => iaC s.hp sz (s.get x) (s.get i) K
 | .iaA len sz x i => iaAC len sz (s.get x) (s.get i) K
 | .ixS x i => ixC (s.get x) (s.get i) K
 | .ixA len x i => ixAC len (s.get x) (s.get i) K
 | .ld x => ldC s.hp (s.get x) none K
 | .ldA n x => ldC s.hp (s.get x) (some n) K
 | .bin op x y => binV op (s.get x) (s.get y) K
 | .binB ng x y => binBC ng (s.get x) (s.get y) K
 | .eqS ng ts x y => eqSC ng ts (s.get x) (s.get y) K
 | .eqR ng n x y => eqRC ng n (s.get x) (s.get y) K
 | .eqn ng k x y => eqnC ng k (s.get x) (s.get y) K
 | .not x => notC (s.get x) K
 | .neg x => negC (s.get x) K
 | .cv k x => cvC k (s.get x) K
 | .b2s x => b2sC s.hp (s.get x) K
 | .ext x i => extC (s.get x) i K
 | .len k x => lenC s.hp k (s.get x) K
 | .mm mx x y => mmC mx (s.get x) (s.get y) K
 | .lk va kt vt ok x k => lkC2 s.hp va kt vt ok (s.get x) (s.get k) K
 | .bld zs parts => optC (aggO (bldC s zs parts)) K
 | .bldA zs n t parts => optC (arrO n t (bldC s zs parts)) K
 | .mkf f caps => K (.fn f (caps.map s.get))
 | .slR sz x lo hi => slRC s sz (s.get x) lo hi K
 | .slS x lo hi => slSC s (s.get x) lo hi K
 | .cvS x => cvSC (s.get x) K
 | o => qrC (ev o s) K
def EvOk (o : AOp) (s : SS) (K : SV → Prop) : Prop := ∃ q, ev o s = some q ∧ q.need ∧ (q.hyp → K q.val)
theorem evOk_qr {o : AOp} {s : SS} {K : SV → Prop} (h : qrC (ev o s) K) : EvOk o s K := by
 unfold qrC at h
 split at h
 ·rename_i q hq; exact ⟨q, hq, h.1, h.2 h.1⟩
 ·cases h
theorem evC_spec {o : AOp} {s : SS} {K : SV → Prop} (h : evC o s K) : EvOk o s K := by
 cases o with
 | mv x => exact ⟨_, rfl, trivial, fun _ => h⟩
 | pick c a b =>
  simp only [evC, pickC] at h
  split at h
  ·rename_i c' hc
   refine ⟨_, by (simp only [ev, hc]; first | done | rfl), ?_, ?_⟩
   ·trivial
   intro _
   simp only [pickV]
   cases c' with
   | true =>
    have h := sw_true h rfl
    split
    ·rename_i h1 h2; rw [h1] at h; exact h
    ·exact h
   | false =>
    have h := sw_false h rfl
    split
    ·rename_i h1 h2; rw [h2] at h; exact h
    ·exact h
  ·cases h
 | nck x =>
  simp only [evC, nckC] at h
  split at h <;> first | exact (h : False).elim | skip
  all_goals rename_i hx
  all_goals (refine ⟨_, by (simp only [ev, hx]; first | done | rfl), ?_, ?_⟩; exact trivial; exact fun _ => h)
 | fld off n x =>
  simp only [evC, fldV, optC] at h
  split at h <;> first | exact (h : False).elim | skip
  rename_i v hv
  split at hv <;> first | cases hv | skip
  rename_i l hl
  split at hv
  ·simp only [headO] at hv
   split at hv <;> first | cases hv | skip
   rename_i r hr
   (refine ⟨_, by (simp only [ev, hl, hr, hv, Option.map_some]; first | done | rfl), ?_, ?_⟩; exact trivial; exact fun _ => h)
  ·simp only [takeO, aggO] at hv
   split at hv <;> first | cases hv | skip
   rename_i r hr
   split at hv <;> first | cases hv | skip
   rename_i l' hl'
   (refine ⟨_, by (simp only [ev, hl, hr, hl', Option.map_some]; first | done | rfl), ?_, ?_⟩; exact trivial; exact fun _ => h)
 | fa off x =>
  simp only [evC, faC] at h
  split at h <;> first | exact (h : False).elim | skip
  all_goals rename_i hx
  all_goals (refine ⟨_, by (simp only [ev, hx]; first | done | rfl), ?_, ?_⟩; exact trivial; exact fun _ => h)
 | ia sz x i =>
  simp only [evC, iaC] at h
  split at h <;> first | exact (h : False).elim | skip
  rename_i n hi
  split at h <;> first | exact (h : False).elim | skip
  ·rename_i hx
   obtain ⟨h1, h2, h3⟩ := h
   (refine ⟨_, by (simp only [ev, hi, hx]; rw [if_pos h1]; first | done | rfl), ?_, ?_⟩; exact h2; exact fun _ => h3 h2 _ rfl)
  ·rename_i j hx
   split at h <;> first | exact (h : False).elim | skip
   rename_i hj
   obtain ⟨h2, h3⟩ := h
   (refine ⟨_, by (simp only [ev, hi, hx, hj]; first | done | rfl), ?_, ?_⟩; exact h2; exact fun _ => h3 h2 _ rfl)
  ·rename_i hx
   split at h <;> first | exact (h : False).elim | skip
   rename_i hj
   obtain ⟨h1, h2, h3⟩ := h
   (refine ⟨_, by (simp only [ev, hi, hx, hj]; rw [if_pos h1]; first | done | rfl), ?_, ?_⟩; exact h2; exact fun _ => h3 h2 _ rfl)
 | iaA len sz x i =>
  simp only [evC, iaAC] at h
  split at h <;> first | exact (h : False).elim | skip
  rename_i n hi
  split at h <;> first | exact (h : False).elim | skip
  rename_i hx
  (refine ⟨_, by (simp only [ev, hi, hx]; first | done | rfl), ?_, ?_⟩; exact h.1; exact fun _ => h.2 h.1 _ rfl)
 | ixS x i =>
  simp only [evC, ixC] at h
  split at h <;> first | exact (h : False).elim | skip
  rename_i b hx
  split at h <;> first | exact (h : False).elim | skip
  rename_i n hi
  (refine ⟨_, by (simp only [ev, hi, hx]; first | done | rfl), ?_, ?_⟩; exact h.1; exact fun _ => h.2 h.1 _ rfl)
 | ld x =>
  simp only [evC, ldC] at h
  split at h
  ·rename_i i off hx
   split at h <;> first | exact (h : False).elim | skip
   rename_i cells hi
   simp only [optC, headO] at h
   split at h <;> first | exact (h : False).elim | skip
   rename_i v hv
   split at hv <;> first | cases hv | skip
   rename_i l hl
   (refine ⟨_, by (simp only [ev, hx, seen, hi, hl, Option.map_some, hv]; first | done | rfl), ?_, ?_⟩; exact trivial; exact fun _ => h)
  ·split at h <;> first | exact (h : False).elim | skip
   rename_i need l hs
   obtain ⟨h1, h2⟩ := h
   have h2 := h2 h1
   simp only [optC] at h2
   split at h2 <;> first | exact (h2 : False).elim | skip
   rename_i v hv
   (refine ⟨_, by (simp only [ev, hs, hv, Option.map_some]; first | done | rfl), ?_, ?_⟩; exact h1; exact fun _ => h2)
 | ldA n x =>
  simp only [evC, ldC] at h
  split at h
  ·rename_i i off hx
   split at h <;> first | exact (h : False).elim | skip
   rename_i cells hi
   simp only [optC, takeO, aggO] at h
   split at h <;> first | exact (h : False).elim | skip
   rename_i v hv
   split at hv <;> first | cases hv | skip
   rename_i l hl
   split at hv <;> first | cases hv | skip
   rename_i l' hl'
   (refine ⟨_, by (simp only [ev, hx, seen, hi, hl, Option.map_some, hl']; first | done | rfl), ?_, ?_⟩; exact trivial; exact fun _ => h)
  ·split at h <;> first | exact (h : False).elim | skip
   rename_i need l hs
   obtain ⟨h1, h2⟩ := h
   have h2 := h2 h1
   simp only [optC, aggO] at h2
   split at h2 <;> first | exact (h2 : False).elim | skip
   rename_i v hv
   split at hv <;> first | cases hv | skip
   rename_i l' hl'
   (refine ⟨_, by (simp only [ev, hs, hl', Option.map_some]; first | done | rfl), ?_, ?_⟩; exact h1; exact fun _ => h2)
 | bin op x y =>
  simp only [evC, binV] at h
  split at h <;> first | exact (h : False).elim | skip
  ·rename_i k a hx
   split at h <;> first | exact (h : False).elim | skip
   rename_i k' b hy
   cases op <;> simp only [binC] at h
   all_goals first
    | (obtain ⟨h1, h2⟩ := h; subst h1; (refine ⟨_, by (simp only [ev, hx, hy, binI, if_true]; first | done | rfl), ?_, ?_⟩; exact trivial; exact fun hh => h2 hh.1 hh.2 _ rfl))
    | (obtain ⟨h1, h2⟩ := h; subst h1; (refine ⟨_, by (simp only [ev, hx, hy, binI, if_true]; first | done | rfl), ?_, ?_⟩; exact trivial; exact fun hh => h2 _ rfl))
    | (obtain ⟨h1, h3, h2⟩ := h; subst h1; (refine ⟨_, by (simp only [ev, hx, hy, binI, if_true]; first | done | rfl), ?_, ?_⟩; exact h3; exact fun hh => h2 h3 hh.1 hh.2 _ rfl))
    | (obtain ⟨h3, h2⟩ := h; (refine ⟨_, by (simp only [ev, hx, hy, binI]; first | done | rfl), ?_, ?_⟩; exact h3; exact fun hh => h2 h3 hh.1 hh.2 _ rfl))
  ·rename_i a hx
   split at h <;> first | exact (h : False).elim | skip
   rename_i b hy
   cases op <;> simp only [binSC] at h
   all_goals first
    | exact (h : False).elim
    | (refine ⟨_, by (simp only [ev, hx, hy, binS]; first | done | rfl), ?_, ?_⟩; exact trivial; exact fun hh => h _ rfl)
    | (refine ⟨_, by (simp only [ev, hx, hy, binS]; first | done | rfl), ?_, ?_⟩; exact h.1; exact fun hh => h.2 _ rfl)
 | binB ng x y =>
  simp only [evC, binBC] at h
  split at h <;> first | exact (h : False).elim | skip
  rename_i a hx
  split at h <;> first | exact (h : False).elim | skip
  rename_i b hy
  (refine ⟨_, by (simp only [ev, hx, hy]; first | done | rfl), ?_, ?_⟩; exact trivial; exact fun _ => h _ rfl)
 | eqS ng ts x y =>
  simp only [evC, eqSC] at h
  split at h <;> first | exact (h : False).elim | skip
  rename_i a hx
  split at h <;> first | exact (h : False).elim | skip
  rename_i b hy
  cases he : eqL ts a b with
  | none => rw [he] at h; exact (h : False).elim
  | some c =>
   rw [he] at h
   refine ⟨_, by simp only [ev, hx, hy, he, Option.map_some]; first | done | rfl, ?_, ?_⟩
   ·exact trivial
   ·exact fun _ => h _ rfl
 | eqR ng n x y =>
  simp only [evC, eqRC] at h
  split at h <;> first | exact (h : False).elim | skip
  rename_i m k a hx
  split at h <;> first | exact (h : False).elim | skip
  rename_i m' k' b hy
  refine ⟨_, by simp only [ev, hx, hy]; rw [if_pos h.1], ?_, ?_⟩
  ·exact trivial
  ·exact fun _ => h.2 _ rfl
 | eqn ng k x y =>
  cases k <;> simp only [evC, eqnC] at h
  all_goals first | exact (h : False).elim | skip
  all_goals (split at h <;> first | exact (h : False).elim | skip)
  all_goals rename_i hx
  all_goals (split at h <;> first | exact (h : False).elim | skip)
  all_goals rename_i hy
  all_goals (refine ⟨_, by (simp only [ev, hx, hy]; first | done | rfl), ?_, ?_⟩; exact trivial; exact fun _ => h)
 | not x =>
  simp only [evC, notC] at h
  split at h <;> first | exact (h : False).elim | skip
  rename_i hx
  (refine ⟨_, by (simp only [ev, hx]; first | done | rfl), ?_, ?_⟩; exact trivial; exact fun _ => h)
 | neg x =>
  simp only [evC, negC] at h
  split at h <;> first | exact (h : False).elim | skip
  rename_i hx
  (refine ⟨_, by (simp only [ev, hx]; first | done | rfl), ?_, ?_⟩; exact trivial; exact fun hh => h hh _ rfl)
 | cv k x =>
  simp only [evC, cvC] at h
  split at h <;> first | exact (h : False).elim | skip
  rename_i hx
  (refine ⟨_, by (simp only [ev, hx]; first | done | rfl), ?_, ?_⟩; exact trivial; exact fun hh => h hh _ rfl)
 | b2s x =>
  simp only [evC, b2sC] at h
  split at h
  ·rename_i hx
   (refine ⟨_, by (simp only [ev, hx]; first | done | rfl), ?_, ?_⟩; exact trivial; exact fun _ => h)
  ·rename_i hx
   split at h <;> first | exact (h : False).elim | skip
   rename_i xs hc
   have he : ev (.b2s x) s = some ⟨True, True, .str ⟨(xs : List UInt8).toArray⟩⟩ := by
    simp only [ev, hc]
   exact ⟨_, he, trivial, fun _ => h _ rfl⟩
 | ext x i =>
  simp only [evC, extC, optC] at h
  split at h <;> first | exact (h : False).elim | skip
  rename_i l hx
  split at h <;> first | exact (h : False).elim | skip
  rename_i v hv
  (refine ⟨_, by (simp only [ev, hx, hv, Option.map_some]; first | done | rfl), ?_, ?_⟩; exact trivial; exact fun _ => h)
 | len k x =>
  cases k <;> simp only [evC, lenC] at h
  ·split at h
   ·rename_i hx
    (refine ⟨_, by (simp only [ev, hx]; first | done | rfl), ?_, ?_⟩; exact trivial; exact fun _ => h)
   ·rename_i hx
    split at h <;> first | exact (h : False).elim | skip
    rename_i C hc
    have he : ev (.len .s x) s = some ⟨True, C.xs.length ≤ maxLen ∧ C.xs.length * C.eb ≤ 140737488355328, .int .i64 C.xs.length⟩ := by
     simp only [ev, hc]
    exact ⟨_, he, trivial, fun hh => h hh.1 hh.2 _ rfl⟩
  ·split at h <;> first | exact (h : False).elim | skip
   ·rename_i hx
    (refine ⟨_, by (simp only [ev, hx]; first | done | rfl), ?_, ?_⟩; exact trivial; exact fun _ => h)
   ·rename_i hx
    split at h <;> first | exact (h : False).elim | skip
    rename_i hm
    (refine ⟨_, by (simp only [ev, hx, hm]; first | done | rfl), ?_, ?_⟩; exact trivial; exact fun hh => h hh _ rfl)
  ·split at h <;> first | exact (h : False).elim | skip
   rename_i hx
   (refine ⟨_, by (simp only [ev, hx]; first | done | rfl), ?_, ?_⟩; exact trivial; exact fun hh => h hh _ rfl)
 | mm mx x y =>
  simp only [evC, mmC] at h
  split at h <;> first | exact (h : False).elim | skip
  rename_i hx
  split at h <;> first | exact (h : False).elim | skip
  rename_i hy
  obtain ⟨h1, h2⟩ := h
  subst h1
  (refine ⟨_, by (simp only [ev, hx, hy, if_true]; first | done | rfl), ?_, ?_⟩; exact trivial; exact fun _ => h2 _ rfl)
 | lk va kt vt ok x k =>
  simp only [evC, lkC2] at h
  split at h <;> first | exact (h : False).elim | skip
  ·rename_i hx
   split at h <;> first | exact (h : False).elim | skip
   rename_i key hk
   have h := h _ _ rfl rfl
   simp only [Option.getD_none] at h
   split at h <;> first | exact (h : False).elim | skip
   rename_i z hz
   cases ok with
   | true => (refine ⟨_, by (simp only [ev, hx, hk, hz]; first | done | rfl), ?_, ?_⟩; exact trivial; exact fun _ => h)
   | false => (refine ⟨_, by (simp only [ev, hx, hk, hz]; first | done | rfl), ?_, ?_⟩; exact trivial; exact fun _ => h)
  rename_i i hx
  split at h <;> first | exact (h : False).elim | skip
  rename_i va' kt' vt' m hm
  obtain ⟨h1, h⟩ := h
  split at h <;> first | exact (h : False).elim | skip
  rename_i key hk
  have h := h _ _ rfl rfl
  split at h <;> first | exact (h : False).elim | skip
  rename_i z hz
  cases ok with
  | true => (refine ⟨_, by (simp only [ev, hx, hm]; rw [if_pos h1]; simp only [hk, hz]; first | done | rfl), ?_, ?_⟩; exact trivial; exact fun _ => h)
  | false => (refine ⟨_, by (simp only [ev, hx, hm]; rw [if_pos h1]; simp only [hk, hz]; first | done | rfl), ?_, ?_⟩; exact trivial; exact fun _ => h)
 | ixA len x i =>
  simp only [evC, ixAC] at h
  split at h <;> first | exact (h : False).elim | skip
  rename_i p hp
  exact ⟨⟨p.1, True, p.2⟩, by simp only [ev, hp, Option.map_some], h.1, fun _ => h.2 h.1⟩
 | bldA zs n t parts =>
  simp only [evC, optC] at h
  split at h <;> first | exact (h : False).elim | skip
  rename_i v hv
  exact ⟨⟨True, True, v⟩, by simp only [ev, hv, Option.map_some], trivial, fun _ => h⟩
 | bld zs parts =>
  simp only [evC, optC, aggO] at h
  split at h <;> first | exact (h : False).elim | skip
  rename_i v hv
  split at hv <;> first | cases hv | skip
  rename_i l hl
  (refine ⟨_, by (simp only [ev, hl, Option.map_some]; first | done | rfl), ?_, ?_⟩; exact trivial; exact fun _ => h)
 | mkf f caps => exact ⟨_, rfl, trivial, fun _ => h⟩
 | cvS x =>
  simp only [evC, cvSC] at h
  split at h <;> first | exact (h : False).elim | skip
  rename_i b hx
  exact ⟨_, by simp only [ev, hx]; rfl, trivial, fun _ => h⟩
 | slS x lo hi =>
  simp only [evC, slSC] at h
  split at h <;> first | exact (h : False).elim | skip
  rename_i b hx
  obtain ⟨l, hl, h⟩ := bdC_spec h
  obtain ⟨u, hu, h1, h2⟩ := bdC_spec h
  exact ⟨_, by simp only [ev, hx, hl, hu]; rfl, h1, fun _ => h2 h1.1 h1.2.1 h1.2.2 _ rfl⟩
 | slR sz x lo hi =>
  simp only [evC, slRC] at h
  split at h <;> first | exact (h : False).elim | skip
  ·rename_i hx
   obtain ⟨l, hl, h⟩ := bdC_spec h
   obtain ⟨u, hu, h1, h2⟩ := bdC_spec h
   exact ⟨_, by simp only [ev, hx, hl, hu]; rfl, h1, fun _ => h2 h1.1 h1.2⟩
  ·rename_i p eb t xs hx
   obtain ⟨h0, h⟩ := h
   obtain ⟨l, hl, h⟩ := bdC_spec h
   obtain ⟨u, hu, h1, h2⟩ := bdC_spec h
   exact ⟨_, by simp only [ev, hx]; rw [if_pos h0]; simp only [hl, hu]; rfl, h1, fun _ => h2 h1.1 h1.2.1 h1.2.2 _ rfl⟩
  ·rename_i j hx
   unfold slRO at h
   split at h <;> first | exact (h : False).elim | skip
   rename_i mv eb t xs hj
   obtain ⟨h0, h⟩ := h
   obtain ⟨l, hl, h⟩ := bdC_spec h
   obtain ⟨u, hu, h1, h2⟩ := bdC_spec h
   exact ⟨_, by simp only [ev, hx, hj, hl, hu]; rw [if_pos h0], h1, fun _ => h2 h1.1 h1.2.1 h1.2.2 _ _ rfl rfl⟩
  ·rename_i j a b sz' hx
   unfold slRV at h
   split at h <;> first | exact (h : False).elim | skip
   rename_i mv eb t xs hj
   obtain ⟨h0, h⟩ := h
   obtain ⟨l, hl, h⟩ := bdC_spec h
   obtain ⟨u, hu, h1, h2⟩ := bdC_spec h
   exact ⟨_, by simp only [ev, hx, hj, hl, hu]; rw [if_pos h0], h1, fun _ => h2 h1.1 h1.2.1 h1.2.2 _ _ rfl rfl⟩
 | _ => exact evOk_qr h
end Go.V
namespace Go.V
set_option linter.unusedSimpArgs false
set_option linter.unnecessarySimpa false
set_option linter.unusedVariables false
section effects
variable {P : Program} {o : Oper} {S : Start} {s : SS} {E : En} {a : Act} {K : SV → SS → Prop} {next : Act → World → Prop} {Q : Exit → Act → World → Prop} {Γ : List (Nat × Contract)}
theorem cpy_key {α : Type} (M V : List α) (o p N : Nat) (h1 : p + V.length ≤ N) (h3 : o + N ≤ M.length) :
  ((M.take (o + p) ++ (V ++ M.drop (o + p + V.length))).drop o).take N = ((M.drop o).take N).take p ++ (V ++ ((M.drop o).take N).drop (p + V.length)) := by
 apply List.ext_getElem?
 intro j
 simp only [List.getElem?_take, List.getElem?_append, List.getElem?_drop, List.length_take, List.length_append, List.length_drop]
 grind
theorem set_same {α : Type} {l : List α} {i : Nat} {x : α} (h : l[i]? = some x) : l.set i x = l := by
 apply List.ext_getElem?
 intro j
 rw [List.getElem?_set]
 split
 ·rename_i hj; subst hj
  rw [h]
  split
  ·rfl
  ·rename_i h2; rw [List.getElem?_eq_none (by omega)] at h; cases h
 ·rfl
theorem e_cpy {t : Ty} {y z : Opd} (hok : okE P o.op (.cpy t y z) = true) (hs : Sat S s E a) (h : eff Γ (.cpy t y z) s K) (hg : Goes S a o K next) : o.wp P a E.w next Q := by
 simp only [okE] at hok
 split at hok
 ·rename_i args ts ho
  simp only [Bool.and_eq_true] at hok
  obtain ⟨h1, h4⟩ := hok
  split at h4
  ·rename_i T ts' hts
   split at h4
   ·rename_i e hT
    have hsz := beq_iff_eq.1 h4
    have hl := okOpds_sound hs.fr _ _ h1
    simp only [List.map_cons, List.map_nil, denL] at hl
    obtain ⟨v1, r1, e1, g1, v2, r2, e2, g2, e3⟩ := hl
    subst e3; subst e2
    simp only [eff, cpy1] at h
    split at h
    ·rename_i ys hys
     obtain ⟨news, hsrc, hnew⟩ := srcOf_sound (P := P) hs.hs g2 hys
     have hnl := rdL_length (rd_length t) ys news hnew
     split at h
     ·rename_i i lo hi sz hx
      rw [hx] at g1
      simp only [den] at g1
      obtain ⟨_, hlh, g1⟩ := g1
      unfold cpy2 at h
      split at h
      ·rename_i mv eb t' xs hi'
       split at h
       ·rename_i ht
        subst ht
        simp only [castT_self] at h
        obtain ⟨⟨k1, k2, k3⟩, h⟩ := h
        subst k1
        have hargs : args.map a.eval = #[v1, v2] := by
         apply Array.ext'
         rw [Array.toList_map, e1]
        have hts' : ts[0]? = some T := by rw [← Array.getElem?_toList, hts]; rfl
        obtain ⟨inf, hinf, hisz⟩ : ∃ inf, P.info? e = some inf ∧ inf.size = t'.size := by
         unfold szOf at hsz
         cases hq : P.info? e with
         | none => rw [hq] at hsz; cases hsz
         | some inf => rw [hq] at hsz; exact ⟨inf, rfl, by simpa using hsz⟩
        have hmn : ∀ n : Nat, n = ys.length → (Builtin.firstCells t'.size n v2).run P E.w = .ok news.toArray E.w := fun n hn => by rw [hn]; exact hsrc.cells E.w rfl
        have hlen := hsrc.len E.w
        have fin : ∀ (w' : World), (∀ ty, (Builtin.copy_ ts ty #[v1, v2]).run P E.w = .ok (goInt ys.length) w') → ys.length ≤ 9223372036854775807 → Sat S (setS s i (.row mv eb t' (xs.take lo ++ (ys ++ xs.drop (lo + ys.length))))) { E with w := w' } a → o.wp P a E.w next Q := by
         intro w' hr hb hs'
         refine goes_value hg h (v := .int .i64 ys.length) ?_ hs' ?_
         ·simp only [den]
          refine ⟨trivial, ?_, ?_⟩ <;> simp only [IntKind.min, IntKind.max, IntKind.signed, IntKind.bits] <;> simp <;> omega
         ·simp [execOp, ho, resolve, invoke, hargs, hr, builtin, goInt]
        rcases hs.hs.ok i _ hi' with ⟨⟨ad0, q1⟩, q2, rfl⟩ | ⟨b, off, cap, cur, T', fr, cs, q1, q2, q3, q4, q5, q6, q7, q8, q9, q10⟩
        ·-- nothing there, nothing comes
         simp at k3
         subst k3
         have hy0 : ys = [] := List.length_eq_zero_iff.1 (by omega)
         subst hy0
         have hn0 : news = [] := List.length_eq_zero_iff.1 (by simpa using hnl)
         subst hn0
         have hv : ∃ ad c, v1 = .slice ad 0 c := by
          rcases g1 with ⟨_, _, ad, _, hv⟩ | ⟨b, o', l, c, _, _, ad, hv, _⟩
          ·exact ⟨_, _, hv⟩
          ·exact ⟨_, _, by rw [hv]; congr 1; omega⟩
         obtain ⟨ad, c, rfl⟩ := hv
         refine fin E.w (fun ty => ?_) (by simp) ?_
         ·have h0 := hmn 0 rfl
          cases ad <;> simp [Builtin.copy_, hts', run_underlying hT, hlen, sizeOf, typeInfo, hinf, hisz, h0, storeCells]
         ·have : setS s i (.row mv eb t' (([] : List t'.den).take lo ++ ([] ++ ([] : List t'.den).drop (lo + 0)))) = s := by
           simp only [List.take_nil, List.drop_nil, List.append_nil, setS]
           have := set_same hi'
           cases s
           simp_all
          simp only [List.length_nil]
          rw [this]
          exact hs
        ·have hcap : ys.length ≤ 9223372036854775807 := by unfold maxLen at q6; omega
         have hcl : cs.length = xs.length * t'.size := rdL_length (rd_length t') xs cs q10
         have hsub : (lo + ys.length) * t'.size ≤ xs.length * t'.size := Nat.mul_le_mul_right _ (by omega)
         rw [Nat.add_mul] at hsub
         have hxc : xs.length * t'.size ≤ cap * t'.size := Nat.mul_le_mul_right _ q5
         have hv : ∃ ad c, v1 = .slice (some ad) (hi - lo) c ∧ (ys = [] ∨ ad = ⟨b, off + lo * t'.size, none⟩) ∨ v1 = .slice none (hi - lo) c ∧ ys = [] := by
          rcases g1 with ⟨z1, z2, ad, z3, z4⟩ | ⟨b', o', l, c, z1, z2, ad, z3, z4⟩
          ·have hy : ys = [] := List.length_eq_zero_iff.1 (by omega)
           cases ad with
           | none => exact ⟨⟨0, 0, none⟩, 0, .inr ⟨by rw [z4, z1, z2], hy⟩⟩
           | some ad => exact ⟨ad, 0, .inl ⟨by rw [z4, z1, z2], .inl hy⟩⟩
          ·refine ⟨ad, c - lo, .inl ⟨z3, ?_⟩⟩
           rw [q1] at z1
           injection z1 with z5 z6 z7
           injection z5 with z5
           injection z5 with z5 z8
           subst z5 z8 z7
           by_cases hc : cap = lo
           ·exact .inl (List.length_eq_zero_iff.1 (by omega))
           ·exact .inr (z4 hc)
         have hmin : Nat.min ys.length (hi - lo) = ys.length := Nat.min_eq_left (by omega)
         obtain ⟨ad, c, hv⟩ := hv
         by_cases hy : ys = []
         ·subst hy
          have hn0 : news = [] := List.length_eq_zero_iff.1 (by simpa using hnl)
          subst hn0
          refine fin E.w (fun ty => ?_) (by simp) ?_
          ·have h0 := hmn 0 rfl
           rcases hv with ⟨rfl, _⟩ | ⟨rfl, _⟩ <;> simp [Builtin.copy_, hts', run_underlying hT, hlen, sizeOf, typeInfo, hinf, hisz, h0, storeCells]
          ·have : setS s i (.row mv eb t' (xs.take lo ++ ([] ++ xs.drop (lo + ([] : List t'.den).length)))) = s := by
            simp only [List.length_nil, List.nil_append, Nat.add_zero, List.take_append_drop, setS]
            have := set_same hi'
            cases s
            simp_all
           rw [this]
           exact hs
         ·have hv2 : v1 = .slice (some ⟨b, off + lo * t'.size, none⟩) (hi - lo) c := by
           rcases hv with ⟨h5, h6⟩ | ⟨_, h6⟩
           ·rcases h6 with h6 | h6
            ·exact absurd h6 hy
            ·rw [h5, h6]
           ·exact absurd h6 hy
          subst hv2
          have hst := run_storeCells_nf P b (off + lo * t'.size) T' fr news 0 cur E.w q3 q4.1 (by omega) (rdL_one ys news hnew)
          simp only [Nat.add_zero, List.append_assoc] at hst
          have hc : Chg E.w (E.w.setRow b (cur.toList.take (off + lo * t'.size) ++ (news ++ cur.toList.drop (off + lo * t'.size + news.length))).toArray) (fun c => (E.ρ i).blk = some c) :=
           (Chg.setRow _ _ _).mono (fun c hcb => by subst hcb; exact q2)
          have hsame := ren_same hs.hs hi' rfl hc
          refine fin _ (fun ty => ?_) hcap (hs.setSame hi' rfl hc ?_ rfl (fun rv0 hid => by cases mv <;> exact hid))
          ·have h0 := hmn _ rfl
           simp [Builtin.copy_, hts', run_underlying hT, hlen, sizeOf, typeInfo, hinf, hisz, hmin, h0, hst]
          ·have hsize : (cur.toList.take (off + lo * t'.size) ++ (news ++ cur.toList.drop (off + lo * t'.size + news.length))).toArray.size = cur.size := by
            simp; omega
           have hll : (xs.take lo ++ (ys ++ xs.drop (lo + ys.length))).length = xs.length := by simp; omega
           refine .inr ⟨b, off, cap, _, T', fr, _, by rw [q1, hll], q2, setRow_heap _ _ _ _ _ _ q3, by rw [hsize]; exact q4, by rw [hll]; exact q5, q6, by rw [hsize]; exact q7, by rw [hll]; exact q8, rfl, ?_⟩
           rw [hll]
           show rdL _ _ (((cur.toList.take (off + lo * t'.size) ++ (news ++ cur.toList.drop (off + lo * t'.size + news.length))).drop off).take (xs.length * t'.size))
           rw [cpy_key cur.toList news off (lo * t'.size) (xs.length * t'.size) (by omega) (by have := Array.length_toList (xs := cur); omega), q9]
           have a1 := rdL_take (rd_length t') lo xs cs q10
           have a2 := rdL_drop (rd_length t') (lo + ys.length) xs cs q10
           rw [Nat.add_mul, ← hnl] at a2
           have a3 := rdL_append _ _ _ _ a1 (rdL_append _ _ _ _ hnew a2)
           exact rdL_mono (fun x c hx => rd_mono hsame.fz (fun b hb => hsame.mem b (.inl hb)) t' x c hx) _ _ a3
       ·cases h
      ·cases h
     ·cases h
    ·cases h
   ·cases h4
  ·cases h4
 ·cases hok
theorem Chg.frz (w : World) (b n : Nat) : Chg w (w.freeze ⟨b, n, none⟩ 1) (fun c => c = b) := by
 have h : (w.freeze ⟨b, n, none⟩ 1).heap.size = w.heap.size := by simp [World.freeze]
 refine ⟨rfl, rfl, rfl, by rw [h]; exact Nat.le_refl _, fun c hc hne => ?_⟩
 simp only [World.freeze]
 rw [if_neg (by decide)]
 simp only [Array.getElem?_modify]
 rw [if_neg (fun e => hne e.symm)]
theorem den_tup3 {E : En} {b : Bool} {x y : SV} {u v : Value} (h1 : b = true) (h2 : den E x u) (h3 : den E y v) : den E (.tup [.bool true, x, y]) (.tuple #[.bool true, u, v]) := by
 simp only [den]
 refine ⟨#[.bool true, u, v], rfl, ?_⟩
 simp only [denL]
 exact ⟨_, _, rfl, by simp only [den], _, _, rfl, h2, _, _, rfl, h3, rfl⟩
theorem e_mkb {y : Opd} (hok : okE P o.op (.mkb y) = true) (hs : Sat S s E a) (h : eff Γ (.mkb y) s K) (hg : Goes S a o K next) : o.wp P a E.w next Q := by
 cases ho : o.op <;> simp only [okE, ho] at hok <;> first | cases hok | skip
 rename_i SS' D x
 simp only [Bool.and_eq_true, beq_iff_eq] at hok
 obtain ⟨⟨h1, h2⟩, h3⟩ := hok
 subst h2
 have g := get_sound h1 hs.fr
 split at h3
 ·rename_i e hD
  simp only [Bool.and_eq_true] at h3
  replace h3 := h3.2
  split at h3
  ·rename_i he
   simp only [eff, mkb1] at h
   split at h
   ·rename_i i hb
    unfold mkb2 at h
    split at h
    ·rename_i mv eb t xs hi
     obtain ⟨hlen, h⟩ := h
     rw [hb] at g
     simp only [den] at g
     obtain ⟨hN, hv, ho1⟩ := g
     rcases hs.hs.ok i _ hi with ⟨_, _, rfl⟩ | ⟨b, off, cap, cur, T', fr, cs, q1, q2, q3, q4, q5, q6, q7, q8, q9, q10⟩
     ·simp at hlen
     ·have hc : Chg E.w (E.w.freeze ⟨b, cur.size, none⟩ 1) (fun c => (E.ρ i).blk = some c) := (Chg.frz _ _ _).mono (fun c hcb => by subst hcb; exact q2)
      have hsame := ren_same hs.hs hi rfl hc
      have hfr : ∃ fr', (E.w.freeze ⟨b, cur.size, none⟩ 1).heap[b]? = some (.cells cur T' fr') ∧ nofz fr' cur.size := by
       obtain ⟨lo, hi'⟩ := fr
       simp only [World.freeze]
       rw [if_neg (by decide)]
       simp only [Array.getElem?_modify, if_true, q3, Option.map_some]
       refine ⟨_, rfl, ?_⟩
       rcases q4.1 with q4 | q4
       ·cases q4; right; simp
       ·right
        simp only at q4
        by_cases hlh : lo == hi'
        ·simp [hlh]
        ·simp only [hlh]
         exact Nat.le_min.2 ⟨q4, Nat.le_refl _⟩
      obtain ⟨fr', f1, f2⟩ := hfr
      have hs' := hs.setSame hi rfl hc (sb' := .row mv eb t xs) (.inr ⟨b, off, cap, cur, T', fr', cs, q1, q2, f1, ⟨f2, q4.2⟩, q5, q6, q7, q8, q9, rdL_mono (fun x c hx => rd_mono hsame.fz (fun b hb => hsame.mem b (.inl hb)) t x c hx) _ _ q10⟩) rfl (fun _ hid => hid)
      have hset : setS s i (.row mv eb t xs) = s := by
       have := set_same hi
       cases s
       simp only [setS] at *
       rw [this]
      rw [hset] at hs'
      refine goes_value hg h (v := a.eval x) ?_ hs' ?_
      ·simp only [den]
       exact ⟨hN, hv, ho1⟩
      ·have hsh : E.w.shape? b = some (T', cur.size) := by simp [World.shape?, q3]
       rw [hv, q1]
       simp [execOp, ho, hv, q1, convert, run_underlying hD, run_underlying he, markStringish, hsh]
    ·cases h
   ·cases h
  ·cases h3
 ·cases h3
theorem e_rng {y : Opd} (hok : okE P o.op (.rng y) = true) (hs : Sat S s E a) (h : eff Γ (.rng y) s K) (hg : Goes S a o K next) : o.wp P a E.w next Q := by
 cases ho : o.op <;> simp only [okE, ho] at hok <;> first | cases hok | skip
 rename_i T x
 simp only [Bool.and_eq_true] at hok
 obtain ⟨h1, h2⟩ := hok
 split at h2
 ·rename_i hT
  have g := get_sound h1 hs.fr
  simp only [eff, rng1] at h
  split at h
  ·rename_i b hb
   rw [hb] at g
   simp only [den] at g
   obtain ⟨hv, hsz⟩ := g
   have hc := Chg.alloc E.w (.stringIter b 0)
   have hs' := hs.push (b' := .itr b 0) (rv' := ⟨some E.w.heap.size, undef⟩) hc (fun b hb => by cases hb; simp) ⟨E.w.heap.size, rfl, heap_alloc_new E.w _, hsz⟩
   refine goes_value hg h (v := .pointer (some ⟨E.w.heap.size, 0, none⟩)) ?_ hs' ?_
   ·simp only [den]
    refine ⟨by show s.hp.length < E.N + 1; have := hs.hs.n; omega, E.w.heap.size, ?_, rfl⟩
    show (upR E.ρ E.N _ s.hp.length).blk = _
    rw [← hs.hs.n, upd_same]
   ·simp [execOp, ho, hv, Instr.range, run_underlying hT]
  ·cases h
 ·cases h2
theorem e_nxt {y : Opd} (hok : okE P o.op (.nxt y) = true) (hs : Sat S s E a) (h : eff Γ (.nxt y) s K) (hg : Goes S a o K next) : o.wp P a E.w next Q := by
 cases ho : o.op <;> simp only [okE, ho] at hok <;> first | cases hok | skip
 rename_i x isS
 simp only [Bool.and_eq_true] at hok
 obtain ⟨rfl, h1⟩ := hok
 have g := get_sound h1 hs.fr
 simp only [eff, nxt1] at h
 split at h
 ·rename_i i off hx
  obtain ⟨rfl, h⟩ := h
  rw [hx] at g
  simp only [den] at g
  obtain ⟨hN, b, hb, hv⟩ := g
  unfold nxt2 at h
  split at h
  ·rename_i t p hi
   obtain ⟨k1, k2⟩ := h
   obtain ⟨b', w1, w2, w3⟩ := hs.hs.ok i _ hi
   rw [hb] at w1
   cases w1
   by_cases hp : p < t.size
   ·obtain ⟨ha, hk⟩ := k1 hp
    have he : t.data.toList.getD p 0 = t[p]'hp := by
     have : p < t.data.toList.length := by simpa using hp
     rw [List.getD_eq_getElem?_getD, List.getElem?_eq_getElem this]
     rfl
    rw [he] at ha hk
    have hc : Chg E.w (E.w.iterAt b t (p + 1)) (fun c => (E.ρ i).blk = some c) := (Chg.setObj _).mono (fun c hc => by subst hc; exact hb)
    have hs' := hs.setSame (sb' := .itr t (p + 1)) hi rfl hc ⟨b, hb, Lib.iterAt_heap E.w b t p (p + 1) w2, w3⟩ rfl (fun _ hid => hid)
    refine goes_value hg hk (v := .tuple #[.bool true, .int .i64 p, .int .i32 (t[p]'hp).toNat]) ?_ hs' ?_
    ·have hm : maxLen = 9223372036854775807 := rfl
     refine den_tup3 (b := true) rfl ?_ ?_
     ·simp only [den]
      refine ⟨trivial, ?_⟩
      show (-9223372036854775808 : Int) ≤ p ∧ (p : Int) ≤ 9223372036854775807
      omega
     ·simp only [den]
      refine ⟨trivial, ?_⟩
      show (-2147483648 : Int) ≤ ((t[p]'hp).toNat : Int) ∧ ((t[p]'hp).toNat : Int) ≤ 2147483647
      omega
    ·simp [execOp, ho, hv, Lib.run_next_ascii_at E.w b t p _ w2 hp ha]
   ·have hk := k2 (by omega)
    refine goes_value hg hk (v := .tuple #[.bool false]) ?_ hs ?_
    ·simp only [den]
     exact ⟨#[.bool false], rfl, by simp only [denL]; exact ⟨_, _, rfl, by simp only [den], rfl⟩⟩
    ·simp [execOp, ho, hv, Lib.run_next_end_at E.w b t p _ w2 hp]
  ·cases h
 ·cases h
end effects
end Go.V
namespace Go.V
set_option linter.unusedSimpArgs false
set_option linter.unnecessarySimpa false
set_option linter.unusedVariables false
section effects
variable {P : Program} {o : Oper} {S : Start} {s : SS} {E : En} {a : Act} {K : SV → SS → Prop} {next : Act → World → Prop} {Q : Exit → Act → World → Prop} {Γ : List (Nat × Contract)}
def AOp.isSt : AOp → Bool
 | .st _ _ _ => true
 | _ => false
theorem eff_sound (hΓ : GOkS P Γ S) {ao : AOp} (hok : okE P o.op ao = true) (hdst : ao.isSt = true → o.dst = none) (hs : Sat S s E a) (h : eff Γ ao s K) (hg : Goes S a o K next) : o.wp P a E.w next Q := by
 cases ao <;> first
  | exact e_isn hok hs h hg
  | exact e_alc hok hs h hg
  | exact e_alcT hok hs h hg
  | exact e_box hok hs h hg
  | exact e_st hok (hdst rfl) hs h hg
  | exact e_app hok hs h hg
  | exact e_bsl hok hs h hg
  | exact e_bslP hok hs h hg
  | exact e_bldF hok hs h hg
  | exact e_mu hok hs h hg
  | exact e_mkm hok hs h hg
  | exact e_s2b hok hs h hg
  | exact e_mks hok hs h hg
  | exact e_dl hok hs h hg
  | exact e_cpy hok hs h hg
  | exact e_mkb hok hs h hg
  | exact e_rng hok hs h hg
  | exact e_nxt hok hs h hg
  | exact e_call hΓ hok hs h hg
  | exact e_callv hΓ hok hs h hg
  | exact h.elim
end effects
def AOp.quiet : AOp → Bool
 | .isn _ _ | .alc _ | .alcT _ _ | .box _ | .bsl _ _ _ _ | .bslP _ _ | .bldF _ _ | .st _ _ _ | .app _ _ _ _ | .cpy _ _ _ | .mkm _ _ _ | .mks _ _ _ _ | .mu _ _ _ _ _ _ | .dl _ _ _ | .s2b _ | .mkb _ | .rng _ | .nxt _ | .call _ _ _ | .callv _ _ _ => false
 | _ => true
def goK (s : SS) (d : Option Nat) (K : SS → Prop) (v : SV) : Prop := K (s.put d v)
def goE (d : Option Nat) (K : SS → Prop) (v : SV) (s' : SS) : Prop := K (s'.put d v)
def step (Γ : List (Nat × Contract)) (o : AOper) (s : SS) (K : SS → Prop) : Prop :=
 match o.op.quiet with
 | true => evC o.op s (goK s o.dst K)
 | false => eff Γ o.op s (goE o.dst K)
def runL (Γ : List (Nat × Contract)) : List AOper → SS → (SS → Prop) → Prop
 | [], s, K => K s
 | o :: r, s, K => match o.guard with
  | none => step Γ o s (fun s' => runL Γ r s' K)
  | some (slot, want) => match lkF s.fr slot with
   | .bool b => sw (b == want) (step Γ o (s.put (some slot) (.bool want)) (fun s' => runL Γ r s' K)) (runL Γ r ((s.put (some slot) (.bool (!want))).put o.dst (.tup [])) K)
   | .tup [] => runL Γ r (s.put o.dst (.tup [])) K
   | _ => False
def okO (P : Program) (nt : Nat) (ops : Array Oper) (o : Oper) (ao : AOper) : Bool :=
 (o.dst == ao.dst) && (match ao.dst with | some d => decide (d < nt) | none => true) &&
 (match ao.op.quiet with
  | true => okQ P o.op ao.op
  | false => okE P o.op ao.op && (!ao.op.isSt || ao.dst.isNone)) &&
 (match o.guard, ao.guard with
  | none, none => true
  | some (j, want), some (slot, want') => (want == want') && ((ops[j]?).bind (·.dst) == some slot) && decide (slot < nt)
  | _, _ => false)
def okL (P : Program) (nt : Nat) (ops : Array Oper) : List Oper → List AOper → Bool
 | [], [] => true
 | o :: r, ao :: r' => okO P nt ops o ao && okL P nt ops r r'
 | _, _ => false
section run
variable {P : Program} {S : Start} {Γ : List (Nat × Contract)}
theorem Sat.put {s : SS} {E : En} {a : Act} (hs : Sat S s E a) {d : Option Nat} (hd : ∀ k, d = some k → k < S.nt) {x : SV} {v : Value} (hx : den E x v) : Sat S (s.put d x) E (a.put d v) := by
 cases d with
 | none => exact hs
 | some d => exact ⟨hs.hs, hs.fr.put (by rw [hs.size]; exact hd d rfl) hx, hs.ev, hs.id, hs.defers, by simp only [Act.put]; rw [Array.size_setIfInBounds]; exact hs.size⟩
theorem Sat.frame {s : SS} {E : En} {a : Act} (hs : Sat S s E a) {fr : List (Nat × SV)} (h : Fr E fr a) : Sat S ⟨fr, s.hp⟩ E a := ⟨hs.hs, h, hs.ev, hs.id, hs.defers, hs.size⟩
theorem step_sound (hΓ : GOkS P Γ S) {ops : Array Oper} {o : Oper} {ao : AOper} (hok : okO P S.nt ops o ao = true) {s : SS} {E : En} {a : Act} (hs : Sat S s E a) {K : SS → Prop} (h : step Γ ao s K) {next : Act → World → Prop} {Q : Exit → Act → World → Prop}
  (hn : ∀ s' E' v, K s' → Sat S s' E' (a.put o.dst v) → next (a.put o.dst v) E'.w) : o.wp P a E.w next Q := by
 simp only [okO, Bool.and_eq_true, beq_iff_eq] at hok
 obtain ⟨⟨⟨hd, hlt⟩, hop⟩, _⟩ := hok
 have hlt' : ∀ k, ao.dst = some k → k < S.nt := by
  intro k hk
  rw [hk] at hlt
  simpa using hlt
 unfold step at h
 split at h
 ·rename_i hq
  rw [hq] at hop
  simp only at hop
  obtain ⟨q, he, hneed, hk⟩ := evC_spec h
  obtain ⟨hyp, v, hr, hv⟩ := ev_sound hop hs.hs hs.fr he hneed
  unfold Oper.wp Oper.upon
  rw [hr]
  exact hn _ _ _ (hk hyp) (by rw [hd]; exact hs.put hlt' hv)
 ·rename_i hq
  rw [hq] at hop
  simp only [Bool.and_eq_true, Bool.or_eq_true, Bool.not_eq_true'] at hop
  refine eff_sound hΓ hop.1 (fun hst => ?_) hs h ?_
  ·rcases hop.2 with h' | h'
   ·rw [hst] at h'; cases h'
   ·rw [hd]; exact Option.isNone_iff_eq_none.1 h'
  ·intro x s' E' v hk hx hs'
   exact hn _ _ _ hk (by rw [hd]; exact hs'.put hlt' hx)
theorem yielded_den {ops : Array Oper} {j slot : Nat} {a : Act} {E : En} {b : Bool} (hj : (ops[j]?).bind (·.dst) = some slot) (h : den E (.bool b) (a.tmps.getD slot undef)) (hlt : slot < a.tmps.size) : yielded ops a.tmps j = some b := by
 simp only [den] at h
 unfold yielded
 rw [hj]
 rw [Array.getD_eq_getD_getElem?, Array.getElem?_eq_getElem hlt, Option.getD_some] at h
 simp [Array.getElem?_eq_getElem hlt, h]
theorem den_undef {E : En} : den E (.tup []) undef := by
 simp only [den]
 exact ⟨#[], rfl, by simp only [denL]⟩
theorem yielded_tup {ops : Array Oper} {E : En} {a : Act} {j slot : Nat} (hj : (ops[j]?).bind (·.dst) = some slot) (h : den E (.tup []) (a.tmps.getD slot undef)) : yielded ops a.tmps j = none := by
 unfold yielded
 rw [hj, Option.bind_some]
 cases hv : a.tmps[slot]? with
 | none => rfl
 | some v =>
  rw [Array.getD_eq_getD_getElem?, hv] at h
  simp only [den] at h
  obtain ⟨vs, h1, _⟩ := h
  simp only [Option.getD_some] at h1
  subst h1
  rfl
theorem runL_sound (hΓ : GOkS P Γ S) {ops : Array Oper} {Q : Exit → Act → World → Prop} : ∀ (l : List Oper) (al : List AOper) (n : Nat), ops.toList.drop n = l → okL P S.nt ops l al = true → ∀ (s : SS) (E : En) (a : Act) (K : SS → Prop), Sat S s E a → runL Γ al s K →
  (∀ s' E' a', K s' → Sat S s' E' a' → Q .normal a' E'.w) → wpOps P ops Q ((List.range l.length).map (n + ·)) a E.w
 | [], [], n, hn, _, s, E, a, K, hs, h, hq => hq _ _ _ h hs
 | [], _ :: _, n, hn, hok, _, _, _, _, _, _, _ => by simp [okL] at hok
 | _ :: _, [], n, hn, hok, _, _, _, _, _, _, _ => by simp [okL] at hok
 | o :: l, ao :: al, n, hn, hok, s, E, a, K, hs, h, hq => by
  simp only [okL, Bool.and_eq_true] at hok
  obtain ⟨hok, hokl⟩ := hok
  have hget : ops[n]? = some o := by
   have := congrArg (fun l => l[0]?) hn
   simpa using this
  have hn' : ops.toList.drop (n + 1) = l := by rw [← List.drop_drop, hn]; rfl
  have ih := fun s E a hs h => runL_sound hΓ l al (n + 1) hn' hokl s E a K hs h hq
  have hrange : (List.range (o :: l).length).map (n + ·) = n :: (List.range l.length).map (n + 1 + ·) := by
   rw [List.length_cons, List.range_succ_eq_map]
   simp [Function.comp_def]
   intro x _; omega
  rw [hrange]
  simp only [wpOps, hget]
  have hokc := hok
  simp only [okO, Bool.and_eq_true] at hok
  obtain ⟨⟨⟨hd, hlt⟩, _⟩, hgd⟩ := hok
  unfold runL at h
  split at h
  ·rename_i hag
   rw [hag] at hgd
   have hog : o.guard = none := by cases hg : o.guard <;> simp [hg] at hgd; rfl
   have hw : Region.wanted o (yielded ops a.tmps) = true := by simp [Region.wanted, hog]
   rw [hw, if_pos rfl]
   exact .inl (step_sound hΓ hokc hs h fun s' E' v hk hs' => ih s' E' _ hs' hk)
  ·rename_i slot want hag
   rw [hag] at hgd
   obtain ⟨j, hog⟩ : ∃ j, o.guard = some (j, want) ∧ (ops[j]?).bind (·.dst) = some slot ∧ slot < S.nt := by
    cases hg : o.guard with
    | none => simp [hg] at hgd
    | some x =>
     obtain ⟨j, w⟩ := x
     simp only [hg, Bool.and_eq_true, beq_iff_eq, decide_eq_true_eq] at hgd
     exact ⟨j, by rw [hgd.1.1], hgd.1.2, hgd.2⟩
   obtain ⟨hog, hj, hsl⟩ := hog
   split at h
   ·rename_i b hb
    have hfr := hs.fr slot
    rw [hb] at hfr
    have hy := yielded_den hj hfr (by rw [hs.size]; exact hsl)
    have hself : ∀ c : Bool, b = c → Sat S (s.put (some slot) (.bool c)) E a := by
     intro c hc
     refine hs.frame (fun k => ?_)
     rw [lkF_up]
     split
     ·rename_i hk
      subst hk; subst hc; exact hfr
     ·exact hs.fr k
    by_cases hbw : b = want
    ·have hw : Region.wanted o (yielded ops a.tmps) = true := by simp [Region.wanted, hog, hy, hbw]
     rw [hw, if_pos rfl]
     have h1 := sw_true h (by simp [hbw])
     exact .inl (step_sound hΓ hokc (hself want hbw) h1 fun s' E' v hk hs' => ih s' E' _ hs' hk)
    ·have hw : Region.wanted o (yielded ops a.tmps) = false := by simp [Region.wanted, hog, hy, hbw]
     rw [hw, if_neg (by simp)]
     have h1 := sw_false h (by simp [hbw])
     have hlt' : ∀ k, ao.dst = some k → k < S.nt := by
      intro k hk
      rw [hk] at hlt
      simpa using hlt
     have hd' : o.dst = ao.dst := by simpa using hd
     refine ih _ E _ ?_ h1
     rw [hd']
     exact (hself (!want) (by cases b <;> cases want <;> simp at hbw ⊢)).put hlt' den_undef
   ·rename_i hb
    have hfr := hs.fr slot
    rw [hb] at hfr
    have hw : Region.wanted o (yielded ops a.tmps) = false := by simp [Region.wanted, hog, yielded_tup hj hfr]
    rw [hw, if_neg (by simp)]
    have hlt' : ∀ k, ao.dst = some k → k < S.nt := by
     intro k hk
     rw [hk] at hlt
     simpa using hlt
    have hd' : o.dst = ao.dst := by simpa using hd
    refine ih _ E _ ?_ h
    rw [hd']
    exact hs.put hlt' den_undef
   ·cases h
end run
end Go.V
