/- The evaluator over memory known by name: append; all operations that make memory, or write it. -/
import Derived.Test.YthndnammnnallaaSymQ
import Derived.Laws.CopyRow
namespace Go.Proofs.Ythndnammnnallaa.Sy
open Go.RowKit

section
variable {S : List Nat} {w0 w w' : World} {ρ : Nat → Int} {g : G} {σ : List (Nat × Nat)} {m m' : Mem} {P : Program} {n : Nat} {tm : TM} {a : Act} {o : Oper}

theorem elems_run (hM : RM ρ S w0 σ m w) {e : TypeId} {x : V} {y : Value} {ns : List V} {k : Nat} (h : elems P m e x = some (ns, k)) (hx : den ρ σ x = some y) :
    ∃ (ad : Addr) (c z : Nat) (ys : List Value), size? P e = some z ∧ y = .slice (some ad) k c ∧ denL ρ σ ns = some ys ∧ ys.length = k * z ∧ ∀ j u, ys[j]? = some u → w.cell? (ad.add j) = some u := by
  unfold elems at h
  split at h
  · cases h
  · rename_i z hz
    split at h
    · rename_i b q l cp
      split at h
      · rename_i kb hb
        split at h
        · rename_i cs hc
          simp only [Option.some.injEq, Prod.mk.injEq] at h
          obtain ⟨rfl, rfl⟩ := h
          obtain ⟨b', c', hs, hh⟩ := hM.blk b kb hb
          obtain ⟨_, ys, hy, hyl, hcell⟩ := range_cells hh hc
          obtain ⟨y', hy', rfl⟩ := den_slice hx
          rw [hs] at hy'; cases hy'
          exact ⟨⟨b', q, none⟩, _, z, ys, hz, rfl, hy, hyl, fun j u hj => by rw [addr_add]; exact (hcell _ _ hj).1⟩
        · cases h
      · cases h
    · cases h

theorem zero_info {e : TypeId} {i : TypeInfo} (hi : P.info? e = some i) {z : List V} (hz : zero? P e = some z) : ∃ zv, i.zero = some zv ∧ denL ρ σ z = some zv.cells.toList := by
  obtain ⟨i2, zv, hi2, hzv, hzd⟩ := zero_den (ρ := ρ) (σ := σ) hz
  rw [hi] at hi2; cases hi2
  exact ⟨zv, hzv, hzd⟩

theorem cellsOk_0 {l : List V} {ys : List Value} (h : denL ρ σ l = some ys) (d : Nat) : cellsOk ρ σ ys.toArray ys.length ((PT.full none d).setN 0 l) := by
  refine ⟨by simp, fun i v hi hv => ?_⟩
  rcases PT.get_setN _ _ _ _ _ hv with ⟨_, h2⟩ | ⟨_, h2⟩
  · obtain ⟨x, h3, h4⟩ := denL_nth h h2
    exact ⟨x, h4, by simpa using h3⟩
  · have := PT.get_full _ _ _ _ h2; cases this
/-- cells that are put behind the known ones -/
theorem cellsOk_grow {cur cur' : Array Value} {n : Nat} {cs : PT V} {l : List V} {ys : List Value} (h : cellsOk ρ σ cur n cs) (hd : denL ρ σ l = some ys) (h1 : ∀ i, i < n → cur'[i]? = cur[i]?) (h2 : ∀ i, i < ys.length → cur'[n + i]? = ys[i]?) (hs : n + ys.length ≤ cur'.size) :
    cellsOk ρ σ cur' (n + ys.length) (cs.setN n l) := by
  have hl := denL_length hd
  refine ⟨hs, fun i v hi hv => ?_⟩
  rcases PT.get_setN _ _ _ _ _ hv with ⟨h3, h4⟩ | ⟨h3, h4⟩
  · obtain ⟨x, h5, h6⟩ := denL_nth hd h4
    refine ⟨x, h6, ?_⟩
    rw [show i = n + (i - n) by omega, h2 (i - n) (by omega)]
    exact h5
  · obtain ⟨x, h5, h6⟩ := h.2 i v (by omega) h4
    exact ⟨x, h5, by rw [h1 i (by omega)]; exact h6⟩
/-- the row behind an append that grew -/
theorem grown_row (w : World) (e : TypeId) {z : Value} {size need old : Nat} (hz : z.cells.size = size) (hpos : 0 < size) {cs : PT V} {ys : List Value} (hy : cellsOk ρ σ ys.toArray (need * size) cs) (hl : ys.length = need * size) (hn : need ≤ maxLen) :
    holds ρ σ (w.drew.alloc (.cells (ys.toArray ++ Builtin.zeroCells z.cells (grownCap w need old e - need)) e)) w.heap.size (grownCap w need old e) (.row e size (need * size) cs) := by
  have hge := grownCap_ge w need old e
  refine ⟨_, heap_alloc_new w.drew _, ⟨?_, ?_⟩, ?_, grownCap_le_maxLen w need old e hn, hpos⟩
  · simp only [Array.size_append, List.size_toArray]; omega
  · intro i v hi hv
    obtain ⟨x, h1, h2⟩ := hy.2 i v hi hv
    exact ⟨x, h1, by rw [Array.getElem?_append_left (by simpa [hl] using hi)]; exact h2⟩
  · simp only [Array.size_append, List.size_toArray, size_zeroCells, hz, hl, ← Nat.add_mul]
    congr 1
    omega

theorem append_sound (hM : RM ρ S w0 σ m w) {t : TypeId} {s x v : V} {a b : Value} (h : appendV P m t s x = some (v, m')) (ha : den ρ σ s = some a) (hb : den ρ σ x = some b) (ty : TypeId) :
    ∃ τ w' z, RM ρ S w0 (σ ++ τ) m' w' ∧ den ρ (σ ++ τ) v = some z ∧ (Builtin.append_ #[t, t] ty #[a, b]).run P w = .ok z w' := by
  unfold appendV at h
  split at h
  · rename_i e hu; (try have hu := und_eq hu)
    split at h
    · rename_i i hi; (try have hi := ti_info hi)
      split at h
      · cases h
      · rename_i hc
        simp only [Bool.and_eq_true] at hc
        obtain ⟨hc1, hc2⟩ := hc
        have hpos : 0 < i.size := by simpa using hc1
        have hby := Nat.le_of_ble_eq_true hc2
        split at h
        · cases h
        · rename_i z hz
          obtain ⟨zv, hzv, hzd⟩ := zero_info (ρ := ρ) (σ := σ) hi hz
          split at h
          · cases h
          · rename_i hzl
            have hzl := Nat.eq_of_beq_eq_true hzl
            have hzs : zv.cells.size = i.size := by
              have := denL_length hzd
              rw [← hzl, ← this]; simp
            split at h
            · cases h
            · rename_i ns k hel
              obtain ⟨ad, c, sz, news, hsz, rfl, hnd, hnl, hcell⟩ := elems_run hM hel hb
              obtain ⟨i2, hi2, rfl⟩ := size_info hsz
              rw [hi] at hi2; cases hi2
              split at h
              · cases h
              · rename_i hone
                simp only [Bool.and_eq_true] at hone
                obtain ⟨h1, hk⟩ := hone
                have hk := Nat.le_of_ble_eq_true hk
                have h1 := allOne_den hnd h1
                split at h
                · simp only [den, Option.some.injEq] at ha
                  subst ha
                  split at h
                  · rename_i hk0
                    have hk0 := Nat.eq_of_beq_eq_true hk0
                    subst hk0
                    simp only [Option.some.injEq, Prod.mk.injEq] at h
                    obtain ⟨rfl, rfl⟩ := h
                    refine ⟨[], w, .slice none 0 0, by simpa using hM, rfl, ?_⟩
                    simp [Builtin.append_, run_underlying hu, sizeOf, typeInfo, hi, Builtin.lenOf, Builtin.firstCells, loadCells, loadCellsFrom]
                  · rename_i hk0
                    have hk0 : 0 < k := by
                      rcases Nat.eq_zero_or_pos k with e | e
                      · subst e; cases hk0
                      · exact e
                    simp only [Mem.new, Option.some.injEq, Prod.mk.injEq] at h
                    obtain ⟨rfl, rfl⟩ := h
                    have hmul : k * i.bytes ≤ 100000 * 1000 := Nat.mul_le_mul hk hby
                    have hrun := run_append_nil (P := P) w t ty e i zv hu hi hzv ad k c news hnl hcell hk0 (by omega) (by omega)
                    refine ⟨[(w.heap.size, grownCap w k 0 e)], _, _, hM.new_blk (Ext1.drew_alloc w _) (holds_pre (grown_row w e hzs hpos (by rw [← hnl]; exact cellsOk_0 hnd 12) hnl (by unfold maxLen; omega))), den_new_slice hM, ?_⟩
                    rw [hrun]
                    rfl
                · rename_i b' l
                  split at h
                  · rename_i e' z' xs hg
                    split at h
                    · rename_i hcc
                      simp only [Bool.and_eq_true] at hcc
                      obtain ⟨⟨⟨⟨g1, g2⟩, g3⟩, g4⟩, g5⟩ := hcc
                      have g1 := Nat.eq_of_beq_eq_true g1
                      have g2 := Nat.eq_of_beq_eq_true g2
                      have g3 := Nat.eq_of_beq_eq_true g3
                      have g4 := Nat.le_of_ble_eq_true g4
                      have g5 := Nat.le_of_ble_eq_true g5
                      subst g1
                      subst g2
                      simp only [Mem.new, Option.some.injEq, Prod.mk.injEq] at h
                      obtain ⟨rfl, rfl⟩ := h
                      obtain ⟨br, cr, hs, hh⟩ := hM.blk b' _ hg
                      obtain ⟨y', hy', rfl⟩ := den_slice ha
                      rw [hs] at hy'; cases hy'
                      subst g3
                      obtain ⟨cur, hcur, hok, hcs, hcm, _⟩ := hh
                      have hol : (cur.toList.take (l * i.size)).length = l * i.size := by have := hok.1; rw [List.length_take, Array.length_toList]; omega
                      have hmul : (l + k) * i.bytes ≤ 1100000 * 1000 := Nat.mul_le_mul (by omega) hby
                      simp only [Cp.den, Nat.sub_zero]
                      by_cases hroom : l + k ≤ cr
                      · have hfit : l * i.size + news.length ≤ cur.size := by rw [hnl, hcs, ← Nat.add_mul]; exact Nat.mul_le_mul_right _ hroom
                        have hrun := run_append_room (P := P) w t ty e i hu hi br l cr cur hcur ad k c news hnl hcell h1 hroom hfit
                        refine ⟨[(br, cr)], _, _, hM.renew hg hs rfl rfl g4 (upd_setRow w br _) (k' := .row e i.size ((l + k) * i.size) (xs.setN (l * i.size) ns)) ?_, den_new_slice hM, hrun⟩
                        have hsp := fun i' => spliced (L := cur.toList) (ys := news) (q := l * i.size) (i := i') (by simpa using hfit)
                        refine ⟨_, setRow_heap w br _ _ e _ hcur, ?_, ?_, hcm, hpos⟩
                        · rw [Nat.add_mul, ← hnl]
                          refine cellsOk_pre (cellsOk_grow hok hnd ?_ ?_ ?_)
                          · intro i' hi'
                            have e2 : ∀ l : List Value, l.toArray[i']? = l[i']? := fun l => by simp
                            rw [e2, hsp, if_pos hi']
                            simp
                          · intro i' hi'
                            have e2 : ∀ l : List Value, l.toArray[l.length * 0 + (l.length * 0 + i')]? = l[i']? := fun l => by simp
                            have e3 : ∀ (l : List Value) (q : Nat), l.toArray[q]? = l[q]? := fun l q => by simp
                            rw [e3, hsp, if_neg (by omega), if_pos (by omega)]
                            congr 1; omega
                          · simp only [List.size_toArray, List.length_append, List.length_take, List.length_drop, Array.length_toList]
                            omega
                        · rw [← hcs]
                          simp only [List.size_toArray, List.length_append, List.length_take, List.length_drop, Array.length_toList]
                          rw [Nat.min_eq_left (by omega)]
                          omega
                      · obtain ⟨olds, hole⟩ : ∃ olds, olds = cur.toList.take (l * i.size) := ⟨_, rfl⟩
                        rw [← hole] at hol
                        have hold : ∀ j u, olds[j]? = some u → w.cell? ((⟨br, 0, none⟩ : Addr).add j) = some u := by
                          intro j u hj
                          rw [addr_add]
                          simp only [World.cell?, hcur, Nat.zero_add, Option.isSome_none, Bool.false_eq_true, if_false]
                          rw [hole, List.getElem?_take] at hj
                          split at hj
                          · simpa using hj
                          · cases hj
                        have hrun := run_append_grow (P := P) w t ty e i zv hu hi hzv ⟨br, 0, none⟩ l cr olds hol hold ad k c news hnl hcell (by omega) (by omega) (growslice_fits (by omega) (by omega))
                        have hlen : (olds ++ news).length = (l + k) * i.size := by rw [List.length_append, hol, hnl, Nat.add_mul]
                        have hall : cellsOk ρ σ (olds ++ news).toArray ((l + k) * i.size) (xs.setN (l * i.size) ns) := by
                          rw [Nat.add_mul, ← hnl]
                          have e3 : ∀ (l : List Value) (q : Nat), l.toArray[q]? = l[q]? := fun l q => by simp
                          refine cellsOk_grow hok hnd ?_ ?_ ?_
                          · intro i' hi'
                            rw [e3, List.getElem?_append_left (by omega), hole, List.getElem?_take, if_pos hi']
                            simp
                          · intro i' hi'
                            rw [e3, List.getElem?_append_right (by omega), hol]
                            congr 1; omega
                          · simp only [List.size_toArray, List.length_append]; omega
                        have hM2 := hM.new_blk (Ext1.drew_alloc w _) (holds_pre (τ := [(w.heap.size, grownCap w (l + k) cr e)]) (grown_row w e (old := cr) hzs hpos hall hlen (by unfold maxLen; omega)))
                        refine ⟨[(w.heap.size, grownCap w (l + k) cr e)], _, _, hM2.forget (get_pre hs), den_new_slice hM, ?_⟩
                        rw [hrun]
                        simp [Cp.den]
                    · cases h
                  · cases h
                · rename_i b' q l cp
                  split at h
                  · rename_i hcc
                    simp only [Bool.and_eq_true] at hcc
                    obtain ⟨g1, g2⟩ := hcc
                    have g1 : cp < l + k := by simpa using g1
                    have g2 := Nat.le_of_ble_eq_true g2
                    split at h
                    · rename_i xs l' hel2
                      obtain ⟨ad2, c2, sz2, olds, hsz2, e2, hod, hol, hold⟩ := elems_run hM hel2 ha
                      obtain ⟨i3, hi3, rfl⟩ := size_info hsz2
                      rw [hi] at hi3; cases hi3
                      subst e2
                      split at h
                      · simp only [Mem.new, Option.some.injEq, Prod.mk.injEq] at h
                        obtain ⟨rfl, rfl⟩ := h
                        obtain ⟨y', hy', e3⟩ := den_slice ha
                        simp only [Value.slice.injEq, Cp.den] at e3
                        obtain ⟨_, rfl, rfl⟩ := e3
                        have hall := denL_append hod hnd
                        have hmul : (l' + k) * i.bytes ≤ 1100000 * 1000 := Nat.mul_le_mul (by omega) hby
                        have hrun := run_append_grow (P := P) w t ty e i zv hu hi hzv ad2 l' c2 olds hol hold ad k c news hnl hcell g1 (by omega) (growslice_fits (by omega) (by omega))
                        have hlen : (olds ++ news).length = (l' + k) * i.size := by rw [List.length_append, hol, hnl, Nat.add_mul]
                        refine ⟨[(w.heap.size, grownCap w (l' + k) c2 e)], _, _, hM.new_blk (Ext1.drew_alloc w _) (holds_pre (grown_row w e (old := c2) hzs hpos (by rw [← hlen]; exact cellsOk_0 hall 12) hlen (by unfold maxLen; omega))), den_new_slice hM, ?_⟩
                        rw [hrun]
                        simp [Cp.den]
                      · cases h
                    · cases h
                  · cases h
                · cases h
    · cases h
  · cases h

theorem xmemO_sound (hT : RT ρ σ g.ng n tm a) (hM : RM ρ S w0 σ m w) {v : V} (h : xmemO P g tm m o.op = some (v, m')) : MRes P ρ S w0 σ a w o v m' := by
  obtain ⟨op, ho⟩ : ∃ op, o.op = op := ⟨_, rfl⟩
  rw [ho] at h
  cases op <;> simp only [xmemO] at h
  case alloc e =>
    split at h
    · rename_i z hz
      obtain ⟨i, zv, hi, hzv, hzd⟩ := zero_den (ρ := ρ) (σ := σ) hz
      simp only [Mem.new, Option.some.injEq, Prod.mk.injEq] at h
      obtain ⟨rfl, rfl⟩ := h
      refine ⟨_, _, _, new_cells hM (xs := zv.cells) (cellsOk_ofL hzd 14) (by rw [← denL_length hzd, Array.length_toList]), den_new hM, .inl ?_⟩
      unfold execOp
      simp [ho, Instr.alloc, zeroValue, typeInfo, hi, hzv, newVar, newRow]
    · cases h
  case box e x =>
    split at h
    · rename_i u hx
      have hc := cells_den (ev_den hT hx)
      simp only [Mem.new, Option.some.injEq, Prod.mk.injEq] at h
      obtain ⟨rfl, rfl⟩ := h
      refine ⟨_, _, _, new_cells hM (xs := (a.eval x).cells) (cellsOk_ofL hc 14) (by rw [← denL_length hc, Array.length_toList]), den_new hM, .inl ?_⟩
      unfold execOp
      simp [ho, Instr.box, newVar, newRow]
    · cases h
  case buildSlice t k ps =>
    split at h
    · rename_i l hl
      obtain ⟨h1, h2⟩ := evParts_den hT hl
      obtain ⟨τ, w', x, h3, h4, h5⟩ := buildSlice_sound hM h h1 h2
      have e : ps.map (fun (i, x) => (i, a.eval x)) = (ps.toList.map fun x => (x.1, a.eval x.2)).toArray := by
        apply Array.toList_inj.1; simp
      refine ⟨τ, w', x, h3, h4, .inl ?_⟩
      unfold execOp
      simp only [ho, e, Sem.run_bind, h5, Result.andThen_ok, Sem.run_pure]
    · cases h
  case store t x y =>
    split at h
    · rename_i b q v' hx hy
      split at h
      · rename_i m2 hs
        simp only [Option.some.injEq, Prod.mk.injEq] at h
        obtain ⟨rfl, rfl⟩ := h
        obtain ⟨y1, w', h1, h2, h3⟩ := store_sound hM hs (ev_den hT hy)
        obtain ⟨y2, h4, e⟩ := den_ptr (ev_den hT hx)
        rw [h1] at h4; cases h4
        refine ⟨[], w', undef, by simpa using h2, by rfl, .inr ⟨?_, rfl⟩⟩
        unfold execOp
        simp only [ho, e, Instr.storeAt, Instr.sureAddr, Sem.run_bind, Sem.run_pure, Result.andThen_ok, h3]
      · cases h
    · cases h
  case makeSlice t l c =>
    split at h
    · rename_i l' c' hl hc
      obtain ⟨τ, w', z, h1, h2, h3⟩ := makeSlice_sound hM h (ev_den hT hl) (ev_den hT hc)
      refine ⟨τ, w', z, h1, h2, .inl ?_⟩
      unfold execOp
      simp only [ho, Sem.run_bind, h3, Result.andThen_ok, Sem.run_pure]
    · cases h
  case call c =>
    split at h
    · rename_i hcal
      split at h
      · rename_i s x t t' hargs htys
        split at h
        · rename_i htt
          have htt := Nat.eq_of_beq_eq_true htt
          subst htt
          have ea := evs_den hT hargs
          obtain ⟨u, z, h1, h2, e⟩ := denL_cons_eq ea
          obtain ⟨u', z', h3, h4, e2⟩ := denL_cons_eq h2
          rw [denL_nil] at h4
          simp only [Option.some.injEq] at h4
          subst h4
          subst e2
          have e' : c.args.map a.eval = #[u, u'] := by apply Array.toList_inj.1; simpa using e
          have et : c.argTypes = #[t, t] := by apply Array.toList_inj.1; simpa using htys
          obtain ⟨τ, w', q, k1, k2, k3⟩ := append_sound hM h h1 h3 o.type
          refine ⟨τ, w', q, k1, k2, .inl ?_⟩
          unfold execOp
          simp only [ho, resolve, hcal, Sem.run_bind, Sem.run_pure, Result.andThen_ok, invoke, builtin, e', et, k3]
        · cases h
      · cases h
    · cases h
  case makeMap t r =>
    split at h
    · simp only [Mem.new, Option.some.injEq, Prod.mk.injEq] at h
      obtain ⟨rfl, rfl⟩ := h
      refine ⟨_, _, _, hM.new_blk (c := 0) (k := .map []) (Ext1.alloc w (.map #[] 0)) ⟨#[], heap_alloc_new w _, rfl, fun i k v hi => by simp at hi⟩, den_new_map hM, .inl ?_⟩
      unfold execOp
      simp [ho, Instr.makeMap, newObj, Sem.run]
    · cases h
  case insert t x k y =>
    split at h
    · rename_i xv kv yv hx hk hy
      split at h
      · rename_i m2 hs
        simp only [Option.some.injEq, Prod.mk.injEq] at h
        obtain ⟨rfl, rfl⟩ := h
        obtain ⟨w', h1, h2⟩ := insert_sound hM hs (ev_den hT hx) (ev_den hT hk) (ev_den hT hy)
        refine ⟨[], w', undef, by simpa using h1, by rfl, .inr ⟨?_, rfl⟩⟩
        unfold execOp
        simp only [ho, Sem.run_bind, h2, Result.andThen_ok, Sem.run_pure]
      · cases h
    · cases h
  case mapUpdate t x k y =>
    split at h
    · rename_i xv kv yv hx hk hy
      split at h
      · rename_i m2 hs
        simp only [Option.some.injEq, Prod.mk.injEq] at h
        obtain ⟨rfl, rfl⟩ := h
        obtain ⟨w', h1, h2⟩ := insert_sound hM hs (ev_den hT hx) (ev_den hT hk) (ev_den hT hy)
        refine ⟨[], w', undef, by simpa using h1, by rfl, .inr ⟨?_, rfl⟩⟩
        unfold execOp
        simp only [ho, Sem.run_bind, h2, Result.andThen_ok, Sem.run_pure]
      · cases h
    · cases h
  case range t x =>
    split at h
    · rename_i kt et mb hu hx
      have hu := und_eq hu
      split at h
      · rename_i es hes
        simp only [Mem.new, Option.some.injEq, Prod.mk.injEq] at h
        obtain ⟨rfl, rfl⟩ := h
        obtain ⟨bm, c, xs, hs, hh, hok⟩ := mapOf_ok hM hes
        obtain ⟨y, hy, e⟩ := den_map (ev_den hT hx)
        rw [hs] at hy; cases hy
        refine ⟨_, _, _, hM.new_blk (c := 0) (k := .iter mb es.length []) (Ext1.alloc w (.mapIter (some bm) es.length #[] es.length)) ⟨bm, c, get_pre hs, heap_alloc_new w _⟩, den_new hM, .inl ?_⟩
        unfold execOp
        simp only [ho, e, Sem.run_bind, run_range_map w t kt et bm xs es.length hu hh, Result.andThen_ok, Sem.run_pure]
      · cases h
    · cases h
  all_goals cases h
theorem arr_news (hM : RM ρ S w0 σ m w) {b : Nat} {o' n : E} {cols : List (IntKind × Nat)} (hb : m.blks.get b = some (.arr o' n cols)) (hz : 0 < cols.length) : ∃ b' c, σ[b]? = some (b', c) ∧ ∃ news : List Value, news.length = (n.val ρ).toNat * cols.length ∧
    (∀ i j kd a, i < (n.val ρ).toNat → cols[j]? = some (kd, a) → news[i * cols.length + j]? = some (.int kd (kd.wrap (ρ (arrIdx a i))))) ∧ ∀ q x, news[q]? = some x → w.cell? ((⟨b', (o'.val ρ).toNat, none⟩ : Addr).add q) = some x := by
  obtain ⟨b', c, hs, cur, t, fr, hcur, hok⟩ := hM.blk _ _ hb
  refine ⟨b', c, hs, (cur.toList.drop (o'.val ρ).toNat).take ((n.val ρ).toNat * cols.length), ?_, ?_, ?_⟩
  · rw [List.length_take, List.length_drop, Array.length_toList]
    rcases Nat.eq_zero_or_pos (n.val ρ).toNat with h0 | h0
    · rw [h0]; simp
    · obtain ⟨⟨kd, a⟩, hl⟩ : ∃ x, cols[cols.length - 1]? = some x := ⟨cols[cols.length - 1], List.getElem?_eq_getElem (by omega)⟩
      have h1 := hok ((n.val ρ).toNat - 1) (cols.length - 1) kd a (by omega) hl
      have h2 : (o'.val ρ).toNat + ((n.val ρ).toNat - 1) * cols.length + (cols.length - 1) < cur.size := (Array.getElem?_eq_some_iff.1 h1).1
      have h3 : ((n.val ρ).toNat - 1) * cols.length + cols.length = (n.val ρ).toNat * cols.length := by
        rw [← Nat.succ_mul]; congr 1; omega
      generalize ((n.val ρ).toNat - 1) * cols.length = A at h2 h3
      generalize (n.val ρ).toNat * cols.length = B at h3 ⊢
      have hlen : cur.toList.length = cur.size := by simp
      have hL : 0 < cols.length := hz
      omega
  · intro i j kd a hi hj
    have hjl : j < cols.length := (List.getElem?_eq_some_iff.1 hj).1
    have hlt : i * cols.length + j < (n.val ρ).toNat * cols.length := by
      calc i * cols.length + j < i * cols.length + cols.length := by omega
        _ = (i + 1) * cols.length := by rw [Nat.add_mul, Nat.one_mul]
        _ ≤ _ := Nat.mul_le_mul_right _ hi
    rw [List.getElem?_take, if_pos hlt, List.getElem?_drop, Array.getElem?_toList, ← Nat.add_assoc]
    exact hok i j kd a hi hj
  · intro q x hq
    rw [List.getElem?_take] at hq
    split at hq
    · rw [List.getElem?_drop, Array.getElem?_toList] at hq
      rw [addr_add]
      simp only [World.cell?, hcur]
      exact hq
    · cases hq
/-- the rest of an append of a row to nothing -/
theorem slTail_sound (hg : Gok ρ g) (hM : RM ρ S w0 σ m w) {t e ty : TypeId} {i : TypeInfo} {zv : Value} {b' off c : Nat} {l : E} {k : Blk} {news : List Value} {K : V × Mem → Prop}
    (hu : P.underlying t = some (.slice e)) (hi : P.info? e = some i) (hzv : i.zero = some zv) (hpos : 0 < i.size) (hby : i.bytes ≤ 1000)
    (n1 : news.length = (l.val ρ).toNat * i.size) (n3 : ∀ q x, news[q]? = some x → w.cell? ((⟨b', off, none⟩ : Addr).add q) = some x)
    (hk : ∀ (c : Nat) (w' : World) (pad : Array Value), w'.heap[w.heap.size]? = some (.cells (news.toArray ++ pad) e (0, 0)) → holds ρ (σ ++ [(w.heap.size, c)]) w' w.heap.size c k)
    (h : (slTail g m l (let (b', m') := m.new k; (.sl b' (.c 0) l, m'))).all ρ K) :
    ∃ v m', K (v, m') ∧ ∃ τ w' z, RM ρ S w0 (σ ++ τ) m' w' ∧ den ρ (σ ++ τ) v = some z ∧ (Builtin.append_ #[t, t] ty #[.slice none 0 0, .slice (some ⟨b', off, none⟩) (l.val ρ).toNat c]).run P w = .ok z w' := by
  unfold slTail at h
  split at h
  · rename_i lo hi' hr
    split at h
    · rename_i hr2
      simp only [Bool.and_eq_true, leI_eq, decide_eq_true_eq] at hr2
      have hin := rng_in hg _ _ hr
      have r1 : lo ≤ l.val ρ := hin.1
      have r2 : l.val ρ ≤ hi' := hin.2
      have zero : l.val ρ = 0 → ∃ τ w' z, RM ρ S w0 (σ ++ τ) m w' ∧ den ρ (σ ++ τ) .nils = some z ∧ (Builtin.append_ #[t, t] ty #[.slice none 0 0, .slice (some ⟨b', off, none⟩) (l.val ρ).toNat c]).run P w = .ok z w' := by
        intro h0
        refine ⟨[], w, .slice none 0 0, by simpa using hM, rfl, ?_⟩
        rw [h0]
        simp [Builtin.append_, run_underlying hu, sizeOf, typeInfo, hi, Builtin.lenOf, Builtin.firstCells, loadCells, loadCellsFrom]
      have some' : l.val ρ ≠ 0 → ∃ τ w' z, RM ρ S w0 (σ ++ τ) (m.new k).2 w' ∧ den ρ (σ ++ τ) (.sl (m.new k).1 (.c 0) l) = some z ∧ (Builtin.append_ #[t, t] ty #[.slice none 0 0, .slice (some ⟨b', off, none⟩) (l.val ρ).toNat c]).run P w = .ok z w' := by
        intro h0
        have hk0 : 0 < (l.val ρ).toNat := by omega
        have hmul : (l.val ρ).toNat * i.bytes ≤ 100000 * 1000 := Nat.mul_le_mul (by omega) hby
        have hrun := run_append_nil (P := P) w t ty e i zv hu hi hzv ⟨b', off, none⟩ (l.val ρ).toNat c news n1 n3 hk0 (by omega) (by omega)
        refine ⟨[(w.heap.size, grownCap w (l.val ρ).toNat 0 e)], _, _, hM.new_blk (Ext1.drew_alloc w _) (k := k) (hk _ _ _ (heap_alloc_new w.drew _)), ?_, hrun⟩
        simp only [Mem.new, den]
        rw [← hM.len, get_last]
        rfl
      split at h
      · rename_i hd
        exact ⟨_, _, h, zero (of_decide_eq_true (dec_ok hg _ _ hd))⟩
      · rename_i hd
        exact ⟨_, _, h, some' (of_decide_eq_false (dec_ok hg _ _ hd))⟩
      · obtain ⟨k1, k2⟩ := h
        by_cases h0 : l.val ρ = 0
        · exact ⟨_, _, k1 (decide_eq_true h0), zero h0⟩
        · exact ⟨_, _, k2 (decide_eq_false h0), some' h0⟩
    · cases h
  · cases h
theorem fn_news (hM : RM ρ S w0 σ m w) {b : Nat} {k : IntKind} {n : E} {f : CF} (hb : m.blks.get b = some (.fn k n f)) : ∃ b' c, σ[b]? = some (b', c) ∧ ∃ news : List Value, news.length = (n.val ρ).toNat ∧
    (∀ i, i < (n.val ρ).toNat → news[i]? = some (.int k (f.val ρ k i))) ∧ ∀ q x, news[q]? = some x → w.cell? ((⟨b', 0, none⟩ : Addr).add q) = some x := by
  obtain ⟨b', c, hs, cur, t, hcur, hok⟩ := hM.blk _ _ hb
  refine ⟨b', c, hs, cur.toList.take (n.val ρ).toNat, ?_, ?_, ?_⟩
  · rw [List.length_take, Array.length_toList]
    rcases Nat.eq_zero_or_pos (n.val ρ).toNat with h0 | h0
    · omega
    · have h1 := (Array.getElem?_eq_some_iff.1 (hok ((n.val ρ).toNat - 1) (by omega))).1
      omega
  · intro i hi
    rw [List.getElem?_take, if_pos hi, Array.getElem?_toList]
    exact hok i hi
  · intro q x hq
    rw [List.getElem?_take] at hq
    split at hq
    · rw [Array.getElem?_toList] at hq
      rw [addr_add]
      simp only [World.cell?, hcur, Nat.zero_add]
      exact hq
    · cases hq
theorem appendSl_sound (hg : Gok ρ g) (hM : RM ρ S w0 σ m w) {t : TypeId} {b : Nat} {o' l : E} {y : Value} {K : V × Mem → Prop} (h : (appendSl P g m t b o' l).all ρ K) (hy : den ρ σ (.sl b o' l) = some y) (ty : TypeId) :
    ∃ v m', K (v, m') ∧ ∃ τ w' z, RM ρ S w0 (σ ++ τ) m' w' ∧ den ρ (σ ++ τ) v = some z ∧ (Builtin.append_ #[t, t] ty #[.slice none 0 0, y]).run P w = .ok z w' := by
  unfold appendSl at h
  split at h
  · rename_i e hu
    have hu := und_eq hu
    split at h
    · rename_i i hi
      have hi := ti_info hi
      split at h
      · rename_i z hz
        obtain ⟨zv, hzv, hzd⟩ := zero_info (ρ := ρ) (σ := σ) hi hz
        split at h
        · rename_i o2 n cols hb
          split at h
          · rename_i hc
            simp only [Bool.and_eq_true] at hc
            obtain ⟨⟨⟨⟨⟨c1, c2⟩, c3⟩, c4⟩, c5⟩, c6⟩ := hc
            have c1 := E.beq_eq _ _ c1
            have c2 := E.beq_eq _ _ c2
            have c3 := Nat.eq_of_beq_eq_true c3
            have c4 : 0 < i.size := by simpa using c4
            have c5 := Nat.le_of_ble_eq_true c5
            subst c1
            subst c2
            obtain ⟨b', c, hs, news, n1, n2, n3⟩ := arr_news hM hb (by omega)
            obtain ⟨y', hy', rfl⟩ := den_sl hy
            rw [hs] at hy'; cases hy'
            have lt : ∀ q j, q * cols.length + j < news.length → ∀ pad : Array Value, (news.toArray ++ pad)[q * cols.length + j]? = news[q * cols.length + j]? := by
              intro q j hlt pad
              rw [Array.getElem?_append_left (by simpa using hlt)]
              simp
            unfold slNew at h
            split at h
            · rename_i k a _
              refine slTail_sound (k := .fn k l (.col a)) hg hM hu hi hzv c4 c5 (by rw [n1, c3]) n3 ?_ h
              intro c'' w' pad hw
              refine ⟨_, e, hw, fun q hq => ?_⟩
              have h1 := n2 q 0 k a hq rfl
              have h2 := lt q 0 (List.getElem?_eq_some_iff.1 h1).1 pad
              rw [h1] at h2
              simpa [CF.val] using h2
            · refine slTail_sound (k := .arr (.c 0) l cols) hg hM hu hi hzv c4 c5 (by rw [n1, c3]) n3 ?_ h
              intro c'' w' pad hw
              refine ⟨_, e, (0, 0), hw, fun q j kd a hq hj => ?_⟩
              have h1 := n2 q j kd a hq hj
              have h2 := lt q j (List.getElem?_eq_some_iff.1 h1).1 pad
              rw [h1] at h2
              rw [show (E.val ρ (.c 0)).toNat + q * cols.length + j = q * cols.length + j by simp [E.val]]
              exact h2
          · cases h
        · rename_i k n f hb
          split at h
          · rename_i hc
            simp only [Bool.and_eq_true] at hc
            obtain ⟨⟨⟨⟨c1, c2⟩, c3⟩, c5⟩, c6⟩ := hc
            have c1 := zeroE_ok (ρ := ρ) c1
            have c2 := E.beq_eq _ _ c2
            have c3 := Nat.eq_of_beq_eq_true c3
            have c5 := Nat.le_of_ble_eq_true c5
            subst c2
            obtain ⟨b', c, hs, news, n1, n2, n3⟩ := fn_news hM hb
            obtain ⟨y', hy', rfl⟩ := den_sl hy
            rw [hs] at hy'; cases hy'
            rw [c1, Int.toNat_zero]
            refine slTail_sound (k := .fn k l f) hg hM hu hi hzv (by omega) c5 (by rw [n1, c3, Nat.mul_one]) n3 ?_ h
            intro c'' w' pad hw
            refine ⟨_, e, hw, fun q hq => ?_⟩
            have h1 := n2 q hq
            rw [Array.getElem?_append_left (by simpa using (List.getElem?_eq_some_iff.1 h1).1)]
            simpa using h1
          · cases h
        · cases h
      · cases h
    · cases h
  · cases h
theorem minN_eq (a b : Nat) : minN a b = Nat.min a b := by
  unfold minN
  cases hb : Nat.ble a b with
  | true =>
    have h : a ≤ b := Nat.le_of_ble_eq_true hb
    show a = Nat.min a b
    exact (Nat.min_eq_left h).symm
  | false =>
    have h : ¬ a ≤ b := fun hh => by rw [Nat.ble_eq_true_of_le hh] at hb; cases hb
    show b = Nat.min a b
    exact (Nat.min_eq_right (by omega)).symm
theorem copy_sound {K : V × Mem → Prop} (hg : Gok ρ g) (hM : RM ρ S w0 σ m w) {t t' ty : TypeId} {d x : V} {y z : Value} {r : T (V × Mem)} (h : copyV P g m t d x = some r) (hK : r.all ρ K) (hd : den ρ σ d = some y) (hx : den ρ σ x = some z) :
    ∃ v m', K (v, m') ∧ ∃ w' q, RM ρ S w0 σ m' w' ∧ den ρ σ v = some q ∧ (Builtin.copy_ #[t, t'] ty #[y, z]).run P w = .ok q w' := by
  unfold copyV at h
  split at h
  · rename_i e hu
    have hu := und_eq hu
    split at h
    · rename_i sz hsz
      obtain ⟨i, hi, hiz⟩ := size_info hsz
      split at h
      · cases h
      · rename_i h1
        have h1 := Nat.eq_of_beq_eq_true h1
        have hs1 : (P.info? e).map (·.size) = some 1 := by rw [hi]; simp [hiz, h1]
        have hs2 : ((P.info? e).map (·.size)).isSome = true := by rw [hs1]; rfl
        split at h
        · rename_i b q l c
          cases h
          obtain ⟨y', hy', rfl⟩ := den_slice hd
          simp only [den, Option.some.injEq] at hx
          subst hx
          exact ⟨_, _, hK, w, _, hM, rfl, run_copy_nil P w _ _ _ e _ _ _ hu hs2⟩
        · rename_i b q l
          cases h
          obtain ⟨y', hy', rfl⟩ := den_sl hd
          simp only [den, Option.some.injEq] at hx
          subst hx
          exact ⟨_, _, hK, w, _, hM, rfl, run_copy_nil P w _ _ _ e _ _ _ hu hs2⟩
        · rename_i b q l c b2 q2 l2 c2
          rw [forceN_eq] at h
          rw [minN_eq] at h
          split at h
          · rename_i k2 k hb2 hb
            split at h
            · rename_i ns hr
              split at h
              · rename_i hc
                cases h
                simp only [Bool.and_eq_true] at hc
                obtain ⟨⟨⟨⟨c1, c2'⟩, c3⟩, c4⟩, c5⟩ := hc
                have c1 := Nat.eq_of_beq_eq_true c1
                have c4 := Nat.le_of_ble_eq_true c4
                have c5 := Nat.le_of_ble_eq_true c5
                obtain ⟨y1, hy1, rfl⟩ := den_slice hd
                obtain ⟨y2, hy2, rfl⟩ := den_slice hx
                obtain ⟨b2', cc2, hs2', hh2⟩ := hM.blk b2 k2 hb2
                rw [hs2'] at hy2; cases hy2
                obtain ⟨b', cc, hsb, hh⟩ := hM.blk b k hb
                rw [hsb] at hy1; cases hy1
                obtain ⟨_, ys, hys, hyl, hcell⟩ := range_cells hh2 hr
                have hone := allOne_den hys c2'
                have hyn : ys.length = Nat.min l2 l := hyl
                have src : ∀ j u, ys[j]? = some u → w.cell? ((⟨b2', q2, none⟩ : Addr).add j) = some u := fun j u hj => by rw [addr_add]; exact (hcell _ _ hj).1
                have fin : ∀ (t2 : TypeId) (cur : Array Value), w.heap[b']? = some (.cells cur t2 (0, 0)) → q + ys.length ≤ cur.size → (Builtin.copy_ #[t, t'] ty #[.slice (some ⟨b', q, none⟩) l cc, .slice (some ⟨b2', q2, none⟩) l2 cc2]).run P w = .ok (goInt ys.length) (w.setRow b' (cur.toList.take q ++ ys ++ cur.toList.drop (q + ys.length)).toArray) :=
                  fun t2 cur hcur hfit => run_copy_row P w t t' ty e b' q l cc ⟨b2', q2, none⟩ l2 cc2 cur t2 ys hu hs1 hcur hyn src hfit hone
                have keep : ∀ (cur : Array Value), q + ys.length ≤ cur.size → (cur.toList.take q ++ ys ++ cur.toList.drop (q + ys.length)).toArray.size = cur.size := by
                  intro cur hfit
                  simp only [List.size_toArray, List.length_append, List.length_take, List.length_drop, Array.length_toList] at hfit ⊢
                  omega
                have res : den ρ σ (.int .i64 (.s (.ofNat (Nat.min l2 l)))) = some (goInt ys.length) := by rw [hyn]; rfl
                refine ⟨_, _, hK, ?_⟩
                cases k with
                | cells t2 n cs =>
                  obtain ⟨cur, t2, hcur, hok, hn2⟩ := hh
                  simp only [Blk.size] at c5
                  have hfit : q + ys.length ≤ cur.size := by omega
                  exact ⟨_, _, hM.upd_blk hb hsb rfl (isRow_ro c3) c4 (upd_setRow w b' _) ⟨_, t2, setRow_heap w b' _ _ t2 _ hcur, cellsOk_put hok hys hfit, by rw [keep cur hfit]; exact hn2⟩, res, fin t2 cur hcur hfit⟩
                | row t2 z' n cs =>
                  obtain ⟨cur, hcur, hok, hsz', hcm, hz0⟩ := hh
                  simp only [Blk.size] at c5
                  have hfit : q + ys.length ≤ cur.size := by have := hok.1; omega
                  exact ⟨_, _, hM.upd_blk hb hsb rfl (isRow_ro c3) c4 (upd_setRow w b' _) ⟨_, setRow_heap w b' _ _ t2 _ hcur, cellsOk_put hok hys hfit, by rw [keep cur hfit]; exact hsz', hcm, hz0⟩, res, fin t2 cur hcur hfit⟩
                | gone => cases c3
                | map _ => cases c3
                | arr _ _ _ => cases c3
                | fn _ _ _ => cases c3
                | iter _ _ _ => cases c3
              · cases h
            · cases h
          · cases h
        · rename_i b q l b2 q2 l2
          split at h
          · rename_i q' n' cols k n f hb2 hb
            have hb := fnAt_get hb
            split at h
            · rename_i k' a'
              split at h
              · rename_i hc
                cases h
                simp only [Bool.and_eq_true] at hc
                obtain ⟨⟨⟨⟨⟨⟨⟨c1, c2⟩, c3⟩, c4⟩, c5⟩, c6⟩, c7⟩, c8⟩ := hc
                have c1 := kindNo_inj c1
                have c2 := Nat.le_of_ble_eq_true c2
                have c3 := zeroE_ok (ρ := ρ) c3
                have c4 := E.beq_eq _ _ c4
                have c5 := E.beq_eq _ _ c5
                have c6 := E.beq_eq _ _ c6
                subst c1; subst c4; subst c5; subst c6
                have b1 : ¬ l.val ρ < l2.val ρ := of_decide_eq_false (dec_ok hg _ _ (isF_ok c7))
                have b0 : ¬ l2.val ρ < 0 := of_decide_eq_false (dec_ok hg _ _ (isF_ok c8))
                obtain ⟨y1, hy1, rfl⟩ := den_sl hd
                obtain ⟨y2, hy2, rfl⟩ := den_sl hx
                obtain ⟨b2', cc2, hs2', news, n1, n2, n3⟩ := arr_news hM hb2 (by simp)
                rw [hs2'] at hy2; cases hy2
                obtain ⟨b', cc, hsb, cur, t2, hcur, hok⟩ := hM.blk _ _ hb
                rw [hsb] at hy1; cases hy1
                simp only [List.length_cons, List.length_nil, Nat.zero_add, Nat.mul_one] at n1 n2
                have hone : ∀ v ∈ news, v.oneCell' = true := by
                  intro v hv
                  obtain ⟨j, hj⟩ := List.getElem?_of_mem hv
                  have hlt : j < news.length := (List.getElem?_eq_some_iff.1 hj).1
                  have := n2 j 0 k' a' (by omega) rfl
                  rw [Nat.add_zero, hj] at this
                  cases this
                  rfl
                have hfit : 0 + news.length ≤ cur.size := by
                  rcases Nat.eq_zero_or_pos (l.val ρ).toNat with h0 | h0
                  · omega
                  · have := (Array.getElem?_eq_some_iff.1 (hok ((l.val ρ).toNat - 1) (by omega))).1
                    omega
                have hmin : news.length = Nat.min (l2.val ρ).toNat (l.val ρ).toNat := by rw [n1]; exact (Nat.min_eq_left (by omega)).symm
                have hrun := run_copy_row P w t t' ty e b' 0 (l.val ρ).toNat cc ⟨b2', (q2.val ρ).toNat, none⟩ (l2.val ρ).toNat cc2 cur t2 news hu hs1 hcur hmin n3 hfit hone
                refine ⟨_, _, hK, _, _, hM.upd_blk hb hsb rfl rfl c2 (upd_setRow w b' _) ⟨_, t2, setRow_heap w b' _ _ t2 _ hcur, fun p hp => ?_⟩, ?_, by rw [c3]; exact hrun⟩
                · have e4 : ∀ l : List Value, l.toArray[p]? = l[p]? := fun l => by simp
                  have sp := spliced (L := cur.toList) (ys := news) (q := 0) (i := p) (by simpa using hfit)
                  rw [e4, sp]
                  simp only [CF.val]
                  rw [if_neg (by omega)]
                  by_cases h7 : (p : Int) < l2.val ρ
                  · rw [if_pos h7, if_pos (by omega)]
                    have := n2 p 0 k' a' (by omega) rfl
                    rw [Nat.sub_zero]
                    simpa using this
                  · rw [if_neg h7, if_neg (by omega)]
                    have := hok p hp
                    simpa using this
                · have e5 : ((news.length : Nat) : Int) = l2.val ρ := by omega
                  simp only [den, DN.val, goInt, e5]
              · cases h
            · cases h
          · cases h
        · cases h
    · cases h
  · cases h
theorem xmem_sound {K : V × Mem → Prop} (hg : Gok ρ g) (hT : RT ρ σ g.ng n tm a) (hM : RM ρ S w0 σ m w) (h : (xmem P g tm m o.op).all ρ K) : ∃ v m', K (v, m') ∧ MRes P ρ S w0 σ a w o v m' := by
  have plain : (tof (xmemO P g tm m o.op)).all ρ K → ∃ v m', K (v, m') ∧ MRes P ρ S w0 σ a w o v m' := by
    intro h
    cases hx : xmemO P g tm m o.op with
    | none => rw [hx] at h; cases h
    | some x => rw [hx] at h; exact ⟨x.1, x.2, h, xmemO_sound hT hM hx⟩
  unfold xmem at h
  split at h
  · rename_i x str ho
    unfold xNext at h
    split at h
    · cases h
    · split at h
      · rename_i xv hx
        exact next_sound (str := false) hM (by assumption) (by simpa using h) (ev_den hT hx)
      · cases h
  · rename_i c ho
    split at h
    · rename_i t ht
      unfold slOf at ht
      split at ht
      · rename_i hcal
        split at ht
        · rename_i b o' l ty ty' hargs htys
          split at ht
          · rename_i htt
            cases ht
            have htt := Nat.eq_of_beq_eq_true htt
            subst htt
            have ea := evs_den hT hargs
            obtain ⟨u, z, h1, h2, e⟩ := denL_cons_eq ea
            obtain ⟨u', z', h3, h4, e2⟩ := denL_cons_eq h2
            rw [denL_nil] at h4
            simp only [Option.some.injEq] at h4
            subst h4
            subst e2
            have hu0 : u = .slice none 0 0 := by simpa [den] using h1.symm
            subst hu0
            have e' : c.args.map a.eval = #[.slice none 0 0, u'] := by apply Array.toList_inj.1; simpa using e
            have et : c.argTypes = #[ty, ty] := by apply Array.toList_inj.1; simpa using htys
            obtain ⟨v, m', hK, τ, w', q, k1, k2, k3⟩ := appendSl_sound hg hM h h3 o.type
            refine ⟨v, m', hK, τ, w', q, k1, k2, .inl ?_⟩
            unfold execOp
            simp only [ho, resolve, hcal, Sem.run_bind, Sem.run_pure, Result.andThen_ok, invoke, builtin, e', et, k3]
          · cases ht
        · rename_i ty ty' hargs htys
          split at ht
          · rename_i e1 htt hu
            have htt := Nat.eq_of_beq_eq_true htt
            subst htt
            have hu := und_eq hu
            split at ht
            · rename_i i hi
              have hi := ti_info hi
              cases ht
              have ea := evs_den hT hargs
              have ea' : c.args.toList.map a.eval = [.slice none 0 0, .slice none 0 0] := by
                simp only [denL, den, Option.some.injEq] at ea
                exact ea.symm
              have e' : c.args.map a.eval = #[.slice none 0 0, .slice none 0 0] := by apply Array.toList_inj.1; simpa using ea'
              have et : c.argTypes = #[ty, ty] := by apply Array.toList_inj.1; simpa using htys
              refine ⟨_, _, h, [], w, .slice none 0 0, by simpa using hM, rfl, .inl ?_⟩
              unfold execOp
              simp [ho, resolve, hcal, invoke, builtin, e', et, Builtin.append_, run_underlying hu, sizeOf, typeInfo, hi, Builtin.lenOf, Builtin.firstCells, loadCells, loadCellsFrom]
            · cases ht
          · cases ht
        · cases ht
      · rename_i hcal
        split at ht
        · rename_i dv xv ty ty' hargs htys
          have ea := evs_den hT hargs
          obtain ⟨u, z, h1, h2, e⟩ := denL_cons_eq ea
          obtain ⟨u', z', h3, h4, e2⟩ := denL_cons_eq h2
          rw [denL_nil] at h4
          simp only [Option.some.injEq] at h4
          subst h4
          subst e2
          have e' : c.args.map a.eval = #[u, u'] := by apply Array.toList_inj.1; simpa using e
          have et : c.argTypes = #[ty, ty'] := by apply Array.toList_inj.1; simpa using htys
          obtain ⟨v, m', hK, w', q, k1, k2, k3⟩ := copy_sound (t' := ty') (ty := o.type) hg hM ht h h1 h3
          refine ⟨v, m', hK, [], w', q, by simpa using k1, by simpa using k2, .inl ?_⟩
          unfold execOp
          simp only [ho, resolve, hcal, Sem.run_bind, Sem.run_pure, Result.andThen_ok, invoke, builtin, e', et, k3]
        · cases ht
      · cases ht
    · rw [← ho] at h
      exact plain h
  · rename_i t x y ho
    split at h
    · rename_i r hr
      unfold stOf at hr
      split at hr
      · rename_i b o' z i j k v hx hy
        split at hr
        · rename_i m2 hs
          cases hr
          obtain ⟨y1, w', h1, h2, h3⟩ := stFn_sound hg hM hs
          obtain ⟨y2, h4, e⟩ := den_pel (ev_den hT hx)
          rw [h1] at h4; cases h4
          have ey := den_int (ev_den hT hy)
          refine ⟨_, _, h, [], w', undef, by simpa using h2, by rfl, .inr ⟨?_, rfl⟩⟩
          unfold execOp
          simp only [ho, e, ey, Instr.storeAt, Instr.sureAddr, Sem.run_bind, Sem.run_pure, Result.andThen_ok, h3]
        · cases hr
      · cases hr
    · rw [← ho] at h
      exact plain h
  · rename_i t l c ho
    split at h
    · rename_i r hr
      unfold mkOf at hr
      split at hr
      · rename_i l' c' hl hc
        split at hr
        · rename_i hb
          have hb := E.beq_eq _ _ hb
          subst hb
          have el := den_int (ev_den hT hl)
          have ec := den_int (ev_den hT hc)
          obtain ⟨v, m', hK, τ, w', z, k1, k2, k3⟩ := mkFn_sound hg hM hr h
          refine ⟨v, m', hK, τ, w', z, k1, k2, .inl ?_⟩
          unfold execOp
          simp only [DN.val] at el ec
          simp only [ho, el, ec, Sem.run_bind, k3, Result.andThen_ok, Sem.run_pure]
        · cases hr
      · cases hr
    · rw [← ho] at h
      exact plain h
  · exact plain h
end
end Go.Proofs.Ythndnammnnallaa.Sy
