/- The evaluator over memory known by name: append; all operations that make memory, or write it. -/
import Derived.Test.YtkjfhkhcoenanaaSymJ
namespace Go.Proofs.Ytkjfhkhcoenanaa.Sy
open Go.RowKit

section
variable {S : List Nat} {w0 w w' : World} {σ : List (Nat × Nat)} {m m' : Mem} {P : Program} {n : Nat} {tm : PT V} {a : Act} {o : Oper}

theorem elems_run (hM : RM S w0 σ m w) {e : TypeId} {x : V} {y : Value} {ns : List V} {k : Nat} (h : elems P m e x = some (ns, k)) (hx : den σ x = some y) :
    ∃ (ad : Addr) (c z : Nat) (ys : List Value), size? P e = some z ∧ y = .slice (some ad) k c ∧ denL σ ns = some ys ∧ ys.length = k * z ∧ ∀ j u, ys[j]? = some u → w.cell? (ad.add j) = some u := by
  unfold elems at h
  split at h
  · cases h
  · rename_i z hz
    split at h
    · rename_i b q l cp
      split at h
      · rename_i kb hb
        split at h
        · rename_i cs hc
          simp only [Option.some.injEq, Prod.mk.injEq] at h
          obtain ⟨rfl, rfl⟩ := h
          obtain ⟨b', c', hs, hh⟩ := hM.blk b kb hb
          obtain ⟨ys, hy, hcell⟩ := live_cells hh
          obtain ⟨rfl, hle⟩ := cut_eq hc
          obtain ⟨y', hy', rfl⟩ := den_slice hx
          rw [hs] at hy'; cases hy'
          have hd := denL_take (l * z) (denL_drop q hy)
          refine ⟨⟨b', q, none⟩, _, z, _, hz, rfl, hd, ?_, ?_⟩
          · rw [denL_length hd, List.length_take]; omega
          · intro j u hj
            rw [addr_add]
            rw [List.getElem?_take] at hj
            split at hj
            · rw [List.getElem?_drop] at hj; exact (hcell _ _ hj).1
            · cases hj
        · cases h
      · cases h
    · cases h

theorem zero_info {e : TypeId} {i : TypeInfo} (hi : P.info? e = some i) {z : List V} (hz : zero? P e = some z) : ∃ zv, i.zero = some zv ∧ denL σ z = some zv.cells.toList := by
  obtain ⟨i2, zv, hi2, hzv, hzd⟩ := zero_den (σ := σ) hz
  rw [hi] at hi2; cases hi2
  exact ⟨zv, hzv, hzd⟩

/-- the row behind an append that grew -/
theorem grown_row (w : World) (e : TypeId) {z : Value} {size need old : Nat} (hz : z.cells.size = size) (hpos : 0 < size) {xs : List V} {ys : List Value} (hy : denL σ xs = some ys) (hl : ys.length = need * size) (hn : need ≤ maxLen) :
    holds σ (w.drew.alloc (.cells (ys.toArray ++ Builtin.zeroCells z.cells (grownCap w need old e - need)) e)) w.heap.size (grownCap w need old e) (.row e size xs) := by
  have hge := grownCap_ge w need old e
  refine ⟨ys, _, hy, heap_alloc_new w.drew _, ?_, ?_, grownCap_le_maxLen w need old e hn, hpos⟩
  · simp
  · simp only [Array.size_append, List.size_toArray, size_zeroCells, hz, hl, ← Nat.add_mul]
    congr 1
    omega

theorem append_sound (hM : RM S w0 σ m w) {t : TypeId} {s x v : V} {a b : Value} (h : appendV P m t s x = some (v, m')) (ha : den σ s = some a) (hb : den σ x = some b) (ty : TypeId) :
    ∃ τ w' z, RM S w0 (σ ++ τ) m' w' ∧ den (σ ++ τ) v = some z ∧ (Builtin.append_ #[t, t] ty #[a, b]).run P w = .ok z w' := by
  unfold appendV at h
  split at h
  · rename_i e hu
    split at h
    · rename_i i hi
      split at h
      · cases h
      · rename_i hc
        simp only [Bool.and_eq_true] at hc
        obtain ⟨hc1, hc2⟩ := hc
        have hpos : 0 < i.size := by simpa using hc1
        have hby := Nat.le_of_ble_eq_true hc2
        split at h
        · cases h
        · rename_i z hz
          obtain ⟨zv, hzv, hzd⟩ := zero_info (σ := σ) hi hz
          split at h
          · cases h
          · rename_i hzl
            have hzl := Nat.eq_of_beq_eq_true hzl
            have hzs : zv.cells.size = i.size := by
              have := denL_length hzd
              rw [← hzl, ← this]; simp
            split at h
            · cases h
            · rename_i ns k hel
              obtain ⟨ad, c, sz, news, hsz, rfl, hnd, hnl, hcell⟩ := elems_run hM hel hb
              obtain ⟨i2, hi2, rfl⟩ := size_info hsz
              rw [hi] at hi2; cases hi2
              split at h
              · cases h
              · rename_i hone
                simp only [Bool.and_eq_true] at hone
                obtain ⟨h1, hk⟩ := hone
                have hk := Nat.le_of_ble_eq_true hk
                have h1 := allOne_den hnd h1
                split at h
                · simp only [den, Option.some.injEq] at ha
                  subst ha
                  split at h
                  · rename_i hk0
                    have hk0 := Nat.eq_of_beq_eq_true hk0
                    subst hk0
                    simp only [Option.some.injEq, Prod.mk.injEq] at h
                    obtain ⟨rfl, rfl⟩ := h
                    refine ⟨[], w, .slice none 0 0, by simpa using hM, rfl, ?_⟩
                    simp [Builtin.append_, run_underlying hu, sizeOf, typeInfo, hi, Builtin.lenOf, Builtin.firstCells, loadCells, loadCellsFrom]
                  · rename_i hk0
                    have hk0 : 0 < k := by
                      rcases Nat.eq_zero_or_pos k with e | e
                      · subst e; cases hk0
                      · exact e
                    simp only [Mem.new, Option.some.injEq, Prod.mk.injEq] at h
                    obtain ⟨rfl, rfl⟩ := h
                    have hmul : k * i.bytes ≤ 100000 * 1000 := Nat.mul_le_mul hk hby
                    have hrun := run_append_nil (P := P) w t ty e i zv hu hi hzv ad k c news hnl hcell hk0 (by omega) (by omega)
                    refine ⟨[(w.heap.size, grownCap w k 0 e)], _, _, hM.new_blk (Ext1.drew_alloc w _) (holds_pre (grown_row w e hzs hpos hnd hnl (by unfold maxLen; omega))), den_new_slice hM, ?_⟩
                    rw [hrun]
                    rfl
                · rename_i b' l
                  split at h
                  · rename_i e' z' xs hg
                    split at h
                    · rename_i hcc
                      simp only [Bool.and_eq_true] at hcc
                      obtain ⟨⟨⟨⟨g1, g2⟩, g3⟩, g4⟩, g5⟩ := hcc
                      have g1 := Nat.eq_of_beq_eq_true g1
                      have g2 := Nat.eq_of_beq_eq_true g2
                      have g3 := Nat.eq_of_beq_eq_true g3
                      have g4 := Nat.le_of_ble_eq_true g4
                      have g5 := Nat.le_of_ble_eq_true g5
                      subst g1
                      subst g2
                      simp only [Mem.new, Option.some.injEq, Prod.mk.injEq] at h
                      obtain ⟨rfl, rfl⟩ := h
                      obtain ⟨br, cr, hs, hh⟩ := hM.blk b' _ hg
                      obtain ⟨y', hy', rfl⟩ := den_slice ha
                      rw [hs] at hy'; cases hy'
                      obtain ⟨olds, cur, hod, hcur, htake, hcs, hcm, _⟩ := hh
                      have hol : olds.length = l * i.size := by rw [denL_length hod, g3]
                      have hall := denL_append hod hnd
                      have hmul : (l + k) * i.bytes ≤ 1100000 * 1000 := Nat.mul_le_mul (by omega) hby
                      simp only [Cp.den, Nat.sub_zero]
                      by_cases hroom : l + k ≤ cr
                      · have hfit : l * i.size + news.length ≤ cur.size := by rw [hnl, hcs, ← Nat.add_mul]; exact Nat.mul_le_mul_right _ hroom
                        have hrun := run_append_room (P := P) w t ty e i hu hi br l cr cur hcur ad k c news hnl hcell h1 hroom hfit
                        refine ⟨[(br, cr)], _, _, hM.renew hg hs rfl rfl g4 (upd_setRow w br _) (k' := .row e i.size (xs ++ ns)) ?_, den_new_slice hM, hrun⟩
                        refine ⟨olds ++ news, _, denL_pre _ _ _ _ hall, setRow_heap w br _ _ e _ hcur, ?_, ?_, hcm, hpos⟩
                        · rw [← hol, htake, ← List.length_append]
                          simp only []
                          exact List.take_left
                        · rw [← hcs]
                          simp only [List.size_toArray, List.length_append, List.length_take, List.length_drop, Array.length_toList]
                          rw [Nat.min_eq_left (by omega)]
                          omega
                      · have hold : ∀ j u, olds[j]? = some u → w.cell? ((⟨br, 0, none⟩ : Addr).add j) = some u := by
                          intro j u hj
                          rw [addr_add]
                          simp only [World.cell?, hcur, Nat.zero_add, Option.isSome_none, Bool.false_eq_true, if_false]
                          rw [← htake, List.getElem?_take] at hj
                          split at hj
                          · simpa using hj
                          · cases hj
                        have hrun := run_append_grow (P := P) w t ty e i zv hu hi hzv ⟨br, 0, none⟩ l cr olds hol hold ad k c news hnl hcell (by omega) (by omega) (growslice_fits (by omega) (by omega))
                        have hlen : (olds ++ news).length = (l + k) * i.size := by rw [List.length_append, hol, hnl, Nat.add_mul]
                        have hM2 := hM.new_blk (Ext1.drew_alloc w _) (holds_pre (τ := [(w.heap.size, grownCap w (l + k) cr e)]) (grown_row w e (old := cr) hzs hpos hall hlen (by unfold maxLen; omega)))
                        refine ⟨[(w.heap.size, grownCap w (l + k) cr e)], _, _, hM2.forget (get_pre hs), den_new_slice hM, ?_⟩
                        rw [hrun]
                        simp [Cp.den]
                    · cases h
                  · cases h
                · rename_i b' q l cp
                  split at h
                  · rename_i hcc
                    simp only [Bool.and_eq_true] at hcc
                    obtain ⟨g1, g2⟩ := hcc
                    have g1 : cp < l + k := by simpa using g1
                    have g2 := Nat.le_of_ble_eq_true g2
                    split at h
                    · rename_i xs l' hel2
                      obtain ⟨ad2, c2, sz2, olds, hsz2, e2, hod, hol, hold⟩ := elems_run hM hel2 ha
                      obtain ⟨i3, hi3, rfl⟩ := size_info hsz2
                      rw [hi] at hi3; cases hi3
                      subst e2
                      split at h
                      · simp only [Mem.new, Option.some.injEq, Prod.mk.injEq] at h
                        obtain ⟨rfl, rfl⟩ := h
                        obtain ⟨y', hy', e3⟩ := den_slice ha
                        simp only [Value.slice.injEq, Cp.den] at e3
                        obtain ⟨_, rfl, rfl⟩ := e3
                        have hall := denL_append hod hnd
                        have hmul : (l' + k) * i.bytes ≤ 1100000 * 1000 := Nat.mul_le_mul (by omega) hby
                        have hrun := run_append_grow (P := P) w t ty e i zv hu hi hzv ad2 l' c2 olds hol hold ad k c news hnl hcell g1 (by omega) (growslice_fits (by omega) (by omega))
                        have hlen : (olds ++ news).length = (l' + k) * i.size := by rw [List.length_append, hol, hnl, Nat.add_mul]
                        refine ⟨[(w.heap.size, grownCap w (l' + k) c2 e)], _, _, hM.new_blk (Ext1.drew_alloc w _) (holds_pre (grown_row w e (old := c2) hzs hpos hall hlen (by unfold maxLen; omega))), den_new_slice hM, ?_⟩
                        rw [hrun]
                        simp [Cp.den]
                      · cases h
                    · cases h
                  · cases h
                · cases h
    · cases h
  · cases h

theorem xmem_sound (hT : RT σ n tm a) (hM : RM S w0 σ m w) {v : V} (h : xmem P tm m o.op = some (v, m')) : MRes P S w0 σ a w o v m' := by
  obtain ⟨op, ho⟩ : ∃ op, o.op = op := ⟨_, rfl⟩
  rw [ho] at h
  cases op <;> simp only [xmem] at h
  case alloc e =>
    split at h
    · rename_i z hz
      obtain ⟨i, zv, hi, hzv, hzd⟩ := zero_den (σ := σ) hz
      simp only [Mem.new, Option.some.injEq, Prod.mk.injEq] at h
      obtain ⟨rfl, rfl⟩ := h
      refine ⟨_, _, _, new_cells hM hzd, den_new hM, .inl ?_⟩
      unfold execOp
      simp [ho, Instr.alloc, zeroValue, typeInfo, hi, hzv, newVar, newRow]
    · cases h
  case box e x =>
    split at h
    · rename_i u hx
      have hc := cells_den (ev_den hT hx)
      simp only [Mem.new, Option.some.injEq, Prod.mk.injEq] at h
      obtain ⟨rfl, rfl⟩ := h
      refine ⟨_, _, _, new_cells hM hc, den_new hM, .inl ?_⟩
      unfold execOp
      simp [ho, Instr.box, newVar, newRow]
    · cases h
  case buildSlice t k ps =>
    split at h
    · rename_i l hl
      obtain ⟨h1, h2⟩ := evParts_den hT hl
      obtain ⟨τ, w', x, h3, h4, h5⟩ := buildSlice_sound hM h h1 h2
      have e : ps.map (fun (i, x) => (i, a.eval x)) = (ps.toList.map fun x => (x.1, a.eval x.2)).toArray := by
        apply Array.toList_inj.1; simp
      refine ⟨τ, w', x, h3, h4, .inl ?_⟩
      unfold execOp
      simp only [ho, e, Sem.run_bind, h5, Result.andThen_ok, Sem.run_pure]
    · cases h
  case store t x y =>
    split at h
    · rename_i b q v' hx hy
      split at h
      · rename_i m2 hs
        simp only [Option.some.injEq, Prod.mk.injEq] at h
        obtain ⟨rfl, rfl⟩ := h
        obtain ⟨y1, w', h1, h2, h3⟩ := store_sound hM hs (ev_den hT hy)
        obtain ⟨y2, h4, e⟩ := den_ptr (ev_den hT hx)
        rw [h1] at h4; cases h4
        refine ⟨[], w', undef, by simpa using h2, by rfl, .inr ⟨?_, rfl⟩⟩
        unfold execOp
        simp only [ho, e, Instr.storeAt, Instr.sureAddr, Sem.run_bind, Sem.run_pure, Result.andThen_ok, h3]
      · cases h
    · cases h
  case makeSlice t l c =>
    split at h
    · rename_i l' c' hl hc
      obtain ⟨τ, w', z, h1, h2, h3⟩ := makeSlice_sound hM h (ev_den hT hl) (ev_den hT hc)
      refine ⟨τ, w', z, h1, h2, .inl ?_⟩
      unfold execOp
      simp only [ho, Sem.run_bind, h3, Result.andThen_ok, Sem.run_pure]
    · cases h
  case call c =>
    split at h
    · rename_i hcal
      split at h
      · rename_i s x t t' hargs htys
        split at h
        · rename_i htt
          have htt := Nat.eq_of_beq_eq_true htt
          subst htt
          have ea := evs_den hT hargs
          obtain ⟨u, z, h1, h2, e⟩ := denL_cons_eq ea
          obtain ⟨u', z', h3, h4, e2⟩ := denL_cons_eq h2
          rw [denL_nil] at h4
          simp only [Option.some.injEq] at h4
          subst h4
          subst e2
          have e' : c.args.map a.eval = #[u, u'] := by apply Array.toList_inj.1; simpa using e
          have et : c.argTypes = #[t, t] := by apply Array.toList_inj.1; simpa using htys
          obtain ⟨τ, w', q, k1, k2, k3⟩ := append_sound hM h h1 h3 o.type
          refine ⟨τ, w', q, k1, k2, .inl ?_⟩
          unfold execOp
          simp only [ho, resolve, hcal, Sem.run_bind, Sem.run_pure, Result.andThen_ok, invoke, builtin, e', et, k3]
        · cases h
      · cases h
    · cases h
  all_goals cases h
end
end Go.Proofs.Ytkjfhkhcoenanaa.Sy
