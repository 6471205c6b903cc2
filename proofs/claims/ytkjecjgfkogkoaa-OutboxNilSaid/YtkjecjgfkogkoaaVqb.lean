/- An entry is written. -/
import Derived.Test.YtkjecjgfkogkoaaVq
namespace Go.V
set_option linter.unusedSimpArgs false
set_option linter.unnecessarySimpa false
set_option linter.unusedVariables false

section effects
variable {P : Program} {o : Oper} {S : Start} {s : SS} {E : En} {a : Act} {K : SV → SS → Prop} {next : Act → World → Prop} {Q : Exit → Act → World → Prop} {Γ : List (Nat × Contract)}

theorem Chg.setObj {w : World} {b : Nat} (ob : Obj) : Chg w { w with heap := w.heap.setIfInBounds b ob } (fun c => c = b) :=
  ⟨rfl, rfl, rfl, by simp, fun c _ hn => by simp [Array.getElem?_setIfInBounds_ne (Ne.symm hn)]⟩

theorem valC_sound {va : Bool} {x : SV} {v : Value} {l : List SV} (hx : den E x v) (h : valC va x = some l) : ∃ cs, denC E l cs ∧ (match va with | true => v = .agg cs.toArray | false => cs = [v]) := by
  cases va with
  | true =>
    simp only [valC] at h
    split at h
    · cases h
      simp only [den] at hx
      obtain ⟨cs, rfl, hc⟩ := hx
      exact ⟨cs.toList, hc, by simp⟩
    · cases h
  | false =>
    simp only [valC] at h
    split at h
    · rename_i h1
      cases h
      refine ⟨[v], ?_, rfl⟩
      rw [denC_cons (one_noArr h1)]
      exact ⟨v, [], rfl, hx, by simp [denC]⟩
    · cases h

theorem e_mu {va : Bool} {kt vt : Ty} {y z u : Opd} (hok : okE P o.op (.mu va kt vt y z u) = true) (hs : Sat S s E a) (h : eff Γ (.mu va kt vt y z u) s K) (hg : Goes S a o K next) : o.wp P a E.w next Q := by
  cases ho : o.op <;> simp only [okE, ho] at hok <;> first | cases hok | skip
  rename_i T x k v
  simp only [Bool.and_eq_true] at hok
  obtain ⟨⟨⟨h1, h2⟩, h3⟩, h4⟩ := hok
  split at h4
  · rename_i KT VT hT
    obtain ⟨d, hkt⟩ := okKey_sound h4
    have g1 := get_sound h1 hs.fr
    have g2 := get_sound h2 hs.fr
    have g3 := get_sound h3 hs.fr
    simp only [eff, mu1] at h
    split at h
    · rename_i i hx
      rw [hx] at g1
      simp only [den] at g1
      obtain ⟨_, b, hb, hxv⟩ := g1
      unfold mu0 at h
      split at h
      · rename_i va' kt' vt' m hi
        obtain ⟨⟨e1, e2, e3⟩, hlen, h⟩ := h
        subst e1; subst e2; subst e3
        unfold mu2 at h
        split at h
        · rename_i key hk
          split at h
          · rename_i l hl
            obtain ⟨cs, hcs, hval⟩ := valC_sound g3 hl
            obtain ⟨E', f1, f2, f3, f4, f5⟩ := frzAll_sound (SV.rowsL l) s l E _ hs hcs
            have hi' := frzAll_map (SV.rowsL l) s l hi
            unfold mu3 at h
            split at h
            · rename_i yv hof
              obtain ⟨c1, c2, rfl, q1, q2⟩ := ofSv_sound vt' _ _ _ _ hof f3
              simp only [denC] at q2
              subst q2
              rw [List.append_nil] at hval
              obtain ⟨b', es, clk, w1, w2, w3⟩ := f2.hs.ok i _ hi'
              rw [f5, hb] at w1
              cases w1
              have hkv := hkt.keyOf E _ key _ hk g2 E'.w E'.Fz
              have hrdV : rdV E'.w E'.Fz va' vt' yv (a.eval v) := by
                cases va' with
                | true => simp only at hval; rw [hval]; exact ⟨_, rfl, by simpa using q1⟩
                | false => simp only at hval; rw [hval] at q1; exact q1
              rw [← f1]
              have fin : ∀ (es' : Array MapEntry) (clk' : Nat), (Instr.mapUpdate T (.map (some b)) (a.eval k) (a.eval v)).run P E'.w = .ok () { E'.w with heap := E'.w.heap.setIfInBounds b (.map es' clk') } →
                  mapok E'.w E'.Fz va' kt' vt' (updM kt' vt' m key yv) es' clk' → o.wp P a E'.w next Q := by
                intro es' clk' hr hm
                have hc : Chg E'.w { E'.w with heap := E'.w.heap.setIfInBounds b (.map es' clk') } (fun c => (E'.ρ i).blk = some c) := (Chg.setObj _).mono (fun c hc => by subst hc; rw [f5]; exact hb)
                have hsame := ren_same f2.hs hi' rfl hc
                have hs' := f2.setSame (sb' := .map va' kt' vt' (updM kt' vt' m key yv)) hi' rfl hc ⟨b, es', clk', by rw [f5]; exact hb, by simp [Array.getElem?_setIfInBounds_self_of_lt (Array.getElem?_eq_some_iff.1 w2).1], hm.mono hsame.fz (fun b hb => hsame.mem b (.inl hb))⟩ rfl (fun _ hid => hid)
                unfold Oper.wp Oper.upon
                have hex : (execOp a.eval o).run P E'.w = .ok .skip { E'.w with heap := E'.w.heap.setIfInBounds b (.map es' clk') } := by
                  simp [execOp, ho, hxv, hr]
                rw [hex]
                exact hg .junk _ _ undef h (by simp only [den]) hs'
              have hlen' := rdM_length m es.toList w3.rd
              rcases find_spec hkt w3.rd w3.nodup hkv with ⟨n1, n2, n3⟩ | ⟨j, e, x0, n1, n2, n3, n4, n5, n6, n7⟩
              · refine fin (es.push { key := a.eval k, val := a.eval v, born := clk }) (clk + 1) ?_ ?_
                · simp [Instr.mapUpdate, run_underlying hT, MapKept.run_getObj_map w2, MapKept.run_checkKey hkt.u (hkt.isKey _ _ _ _ hkv), MapKept.run_findKey hkt.u n1, MapKept.run_setObj_map _ w2, Result.andThen]
                · rw [updM_none hkt.beq m n3]
                  refine ⟨?_, ?_, ?_, ?_, ?_⟩
                  · rw [Array.toList_push]; exact rdM_push (x := (key, yv)) hkv hrdV m es.toList w3.rd
                  · rw [List.map_append, List.map_cons, List.map_nil, List.nodup_append]
                    refine ⟨w3.nodup, by simp, fun p hp q hq => ?_⟩
                    simp at hq; subst hq
                    intro e; subst e
                    obtain ⟨x, hx, hxe⟩ := List.mem_map.1 hp
                    exact n3 x hx hxe
                  · rw [Array.toList_push, List.map_append, List.pairwise_append]
                    refine ⟨w3.born, by simp, fun p hp q hq => ?_⟩
                    simp at hq; subst hq
                    obtain ⟨x, hx, hxe⟩ := List.mem_map.1 hp
                    rw [← hxe]; exact w3.clk x hx
                  · intro e he
                    rw [Array.toList_push] at he
                    rcases List.mem_append.1 he with he | he
                    · have := w3.clk e he; omega
                    · simp at he; subst he; simp
                  · simp; omega
              · have hj : es[j]? = some e := by simpa using n2
                refine fin (es.modify j fun e => { e with key := a.eval k, val := a.eval v }) clk ?_ ?_
                · simp [Instr.mapUpdate, run_underlying hT, MapKept.run_getObj_map w2, MapKept.run_checkKey hkt.u (hkt.isKey _ _ _ _ hkv), MapKept.run_findKey hkt.u n1, hj, n3, MapKept.run_keyThatStays (hkt.isKey _ _ _ _ hkv), MapKept.run_setObj_map _ w2, Result.andThen]
                · rw [updM_some hkt.beq m j x0 w3.nodup n4 n5]
                  have hlist : (es.modify j fun e => { e with key := a.eval k, val := a.eval v }).toList = es.toList.set j { e with key := a.eval k, val := a.eval v } := by
                    apply List.ext_getElem?
                    intro p
                    rw [Array.getElem?_toList, Array.getElem?_modify, List.getElem?_set, Array.length_toList]
                    by_cases hpj : j = p
                    · subst hpj
                      rw [if_pos rfl, if_pos rfl, if_pos (Array.getElem?_eq_some_iff.1 hj).1, hj]
                      rfl
                    · simp [hpj]
                  have hset : ∀ {β : Type} (l : List β) (n : Nat) (x : β), l[n]? = some x → l.set n x = l := fun l n x h => by
                    apply List.ext_getElem?
                    intro p
                    rw [List.getElem?_set]
                    by_cases hp : n = p
                    · subst hp; rw [if_pos rfl, if_pos (List.getElem?_eq_some_iff.1 h).1, h]
                    · simp [hp]
                  refine ⟨?_, ?_, ?_, ?_, ?_⟩
                  · rw [hlist]; exact rdM_set (x := (key, yv)) (e := { e with key := a.eval k, val := a.eval v }) hkv hrdV m es.toList j w3.rd
                  · rw [List.map_set, hset _ _ _ (by rw [List.getElem?_map, n4]; simp [n5])]
                    exact w3.nodup
                  · rw [hlist, List.map_set, hset _ _ _ (by rw [List.getElem?_map, n2]; rfl)]
                    exact w3.born
                  · intro e' he'
                    rw [hlist] at he'
                    rcases List.mem_or_eq_of_mem_set he' with he' | rfl
                    · exact w3.clk e' he'
                    · exact w3.clk e (List.mem_of_getElem? n2)
                  · rw [List.length_set]; exact w3.len
            · cases h
          · cases h
        · cases h
      · cases h
    · cases h
  · cases h4

end effects
end Go.V
