/- The evaluator over memory known by name: operations that make memory, or write it, are sound. -/
import Derived.Test.YtkjfhkhcoenanaaSymI
import Derived.Laws.MakeOwn
namespace Go.Proofs.Ytkjfhkhcoenanaa.Sy
open Go.RowKit

def repV (z : List Value) : Nat → List Value
  | 0 => []
  | n + 1 => z ++ repV z n
theorem repV_length (z : List Value) : ∀ n, (repV z n).length = n * z.length
  | 0 => by simp [repV]
  | n + 1 => by simp only [repV, List.length_append, repV_length z n]; rw [Nat.add_mul]; omega
theorem repV_get (z : List Value) (hz : 0 < z.length) : ∀ (n k : Nat), k < n * z.length → (repV z n)[k]? = z[k % z.length]?
  | 0, k, h => by omega
  | n + 1, k, h => by
    simp only [repV]
    by_cases hk : k < z.length
    · rw [List.getElem?_append_left hk, Nat.mod_eq_of_lt hk]
    · have hk : z.length ≤ k := by omega
      rw [List.getElem?_append_right hk, repV_get z hz n (k - z.length) (by rw [Nat.add_mul] at h; omega)]
      rw [Nat.mod_eq_sub_mod hk]
theorem made_rep (z : Array Value) (hz : 0 < z.size) (n : Nat) : madeCells z (n * z.size) = (repV z.toList n).toArray := by
  apply Array.ext_getElem?
  intro k
  have hl := repV_length z.toList n
  have hz' : z.toList.length = z.size := by simp
  by_cases hk : k < n * z.size
  · have := repV_get z.toList (by omega) n k (by rw [hz']; exact hk)
    have e : (repV z.toList n).toArray[k]? = (repV z.toList n)[k]? := by simp
    rw [e, this, hz']
    have hm : k % z.size < z.size := Nat.mod_lt _ hz
    simp [madeCells, hk, hm]
  · rw [Array.getElem?_eq_none (by rw [size_madeCells]; omega), Array.getElem?_eq_none (by simp [hl]; omega)]

theorem take_splice (Y B X : List Value) (q : Nat) (h : q + X.length ≤ Y.length) : ((Y ++ B).take q ++ X ++ (Y ++ B).drop (q + X.length)).take Y.length = Y.take q ++ X ++ Y.drop (q + X.length) := by
  have e1 : (Y ++ B).take q = Y.take q := List.take_append_of_le_length (by omega)
  have e2 : (Y ++ B).drop (q + X.length) = Y.drop (q + X.length) ++ B := List.drop_append_of_le_length (by omega)
  rw [e1, e2, ← List.append_assoc]
  have hl : (Y.take q ++ X ++ Y.drop (q + X.length)).length = Y.length := by
    simp only [List.length_append, List.length_take, List.length_drop]
    rw [Nat.min_eq_left (by omega)]
    omega
  conv => lhs; rw [← hl]
  exact List.take_left

section
variable {S : List Nat} {w0 w w' : World} {σ : List (Nat × Nat)} {m m' : Mem} {P : Program} {n : Nat} {tm : PT V} {a : Act} {o : Oper}

theorem rep_den {z : List V} {zs : List Value} (h : denL σ z = some zs) : ∀ k, denL σ (rep z k) = some (repV zs k)
  | 0 => denL_nil
  | k + 1 => denL_append h (rep_den h k)

/-- what comes of an operation that makes memory, or writes it -/
def MRes (P : Program) (S : List Nat) (w0 : World) (σ : List (Nat × Nat)) (a : Act) (w : World) (o : Oper) (v : V) (m' : Mem) : Prop :=
  ∃ τ w' x, RM S w0 (σ ++ τ) m' w' ∧ den (σ ++ τ) v = some x ∧ ((execOp a.eval o).run P w = .ok (.value x) w' ∨ ((execOp a.eval o).run P w = .ok .skip w' ∧ x = undef))

theorem den_new {b c o : Nat} (hM : RM S w0 σ m w) : den (σ ++ [(b, c)]) (.ptr m.next o) = some (.pointer (some ⟨b, o, none⟩)) := by
  simp only [den]
  rw [← hM.len, get_last]
theorem den_new_slice {b c o l : Nat} {cp : Cp} (hM : RM S w0 σ m w) : den (σ ++ [(b, c)]) (.slice m.next o l cp) = some (.slice (some ⟨b, o, none⟩) l (cp.den c)) := by
  simp only [den]
  rw [← hM.len, get_last]
/-- a new block of cells -/
theorem new_cells (hM : RM S w0 σ m w) {t : TypeId} {cs : List V} {xs : List Value} (h : denL σ cs = some xs) : RM S w0 (σ ++ [(w.heap.size, 0)]) (m.new (.cells t cs)).2 (w.alloc (.cells xs.toArray t)) :=
  hM.new_blk (Ext1.alloc w _) ⟨xs, denL_pre _ _ _ _ h, heap_alloc_new w _⟩

theorem upd_setRow (w : World) (g : Nat) (cs : Array Value) : Upd1 g w (w.setRow g cs) := ⟨rfl, rfl, rfl, by simp [World.setRow], fun i hi => setRow_other w g i cs hi⟩

theorem with_cells {k : Blk} {l : List V} (h : k.isCells = true) : (k.with l).isCells = true := by cases k <;> first | rfl | cases h

theorem store_sound (hM : RM S w0 σ m w) {t : TypeId} {b q : Nat} {v : V} {x : Value} (h : store P m t b q v = some m') (hx : den σ v = some x) :
    ∃ y w', σ[b]? = some y ∧ RM S w0 σ m' w' ∧ (storeVar t ⟨y.1, q, none⟩ x).run P w = .ok () w' := by
  unfold store at h
  cases hlim : Nat.ble m.lim b with
  | false => simp only [hlim] at h; cases h
  | true =>
    simp only [hlim] at h
    have hlim := Nat.le_of_ble_eq_true hlim
    cases hg : m.blks.get b with
    | none => simp only [hg] at h; cases h
    | some k =>
      simp only [hg] at h
      cases hz : size? P t with
      | none => simp only [hz] at h; cases h
      | some z =>
        simp only [hz] at h
        cases hc : (Nat.beq z (cellsOf v).length && allOne (cellsOf v) && k.live) with
        | false => simp only [hc] at h; cases h
        | true =>
          simp only [hc] at h
          cases hs : splice (blkCells k) q (cellsOf v) with
          | none => simp only [hs] at h; cases h
          | some l =>
            simp only [hs, Option.some.injEq] at h
            subst h
            simp only [Bool.and_eq_true] at hc
            obtain ⟨⟨hc1, hc2⟩, hlive⟩ := hc
            have hc1 := Nat.eq_of_beq_eq_true hc1
            obtain ⟨rfl, hle⟩ := splice_eq hs
            obtain ⟨b', c', hsb, hh⟩ := hM.blk b k hg
            have hxc := cells_den hx
            have hxl := denL_length hxc
            have h1 := allOne_den hxc hc2
            have hxs : x.cells.toList.length = x.cells.size := Array.length_toList
            refine ⟨(b', c'), ?_⟩
            have fin : ∀ (t' : TypeId) (cur : Array Value), w.heap[b']? = some (.cells cur t' (0, 0)) → q + x.cells.toList.length ≤ cur.size → (storeVar t ⟨b', q, none⟩ x).run P w = .ok () (w.setRow b' (cur.toList.take q ++ x.cells.toList ++ cur.toList.drop (q + x.cells.toList.length)).toArray) := by
              intro t' cur hcur hfit
              have hr := run_storeCells_at P b' q t' x.cells.toList 0 cur w hcur (by simpa using hfit) h1
              simp only [Nat.add_zero] at hr
              have hsz : x.cells.size = z := by rw [hc1, ← hxl]; simp
              unfold storeVar
              simp only [Sem.run_bind, size_run hz w, Result.andThen_ok, hsz, ne_eq, not_true_eq_false, if_false, Sem.run_pure, hr]
            cases k with
            | cells t' cs =>
              obtain ⟨ys, hy, hcur⟩ := hh
              have hyl := denL_length hy
              refine ⟨_, hsb, hM.upd_blk hg hsb rfl hlim (upd_setRow w b' _) ?_ (fun _ => rfl), fin t' ys.toArray hcur ?_⟩
              · refine ⟨ys.take q ++ x.cells.toList ++ ys.drop (q + x.cells.toList.length), ?_, ?_⟩
                · have := denL_append (denL_append (denL_take q hy) hxc) (denL_drop (q + (cellsOf v).length) hy)
                  rw [hxl]
                  exact this
                · rw [setRow_heap w b' _ _ t' _ hcur]
              · simp only [blkCells] at hle
                simp only [List.size_toArray]; omega
            | row t' z' xs =>
              obtain ⟨ys, cur, hy, hcur, htake, hsz, hcm, hz0⟩ := hh
              have hyl := denL_length hy
              simp only [blkCells] at hle
              have hyc : ys.length ≤ cur.size := by
                have := congrArg List.length htake
                simp only [List.length_take, Array.length_toList] at this
                omega
              have hfit : q + x.cells.toList.length ≤ ys.length := by omega
              refine ⟨_, hsb, hM.upd_blk hg hsb rfl hlim (upd_setRow w b' _) ?_ (fun h => by cases h), fin t' cur hcur (by omega)⟩
              obtain ⟨B, hB⟩ : ∃ B, cur.toList = ys ++ B := ⟨cur.toList.drop ys.length, by conv => lhs; rw [← List.take_append_drop ys.length cur.toList, htake]⟩
              refine ⟨ys.take q ++ x.cells.toList ++ ys.drop (q + x.cells.toList.length), _, ?_, setRow_heap w b' _ _ t' _ hcur, ?_, ?_, hcm, hz0⟩
              · have := denL_append (denL_append (denL_take q hy) hxc) (denL_drop (q + (cellsOf v).length) hy)
                rw [hxl]
                exact this
              · have e : (ys.take q ++ x.cells.toList ++ ys.drop (q + x.cells.toList.length)).length = ys.length := by
                  simp only [List.length_append, List.length_take, List.length_drop]
                  rw [Nat.min_eq_left (by omega)]
                  omega
                rw [e, hB]
                exact take_splice ys B x.cells.toList q hfit
              · rw [← hsz]
                simp only [List.size_toArray, List.length_append, List.length_take, List.length_drop, Array.length_toList]
                rw [Nat.min_eq_left (by omega)]
                omega
            | gone => cases hlive

theorem buildSlice_sound (hM : RM S w0 σ m w) {t : TypeId} {k : Nat} {ps : List (Nat × V)} {qs : List (Nat × Value)} {v : V} (h : buildSliceV P m t k ps = some (v, m')) (h1 : ps.map (·.1) = qs.map (·.1)) (h2 : denL σ (ps.map (·.2)) = some (qs.map (·.2))) :
    ∃ τ w' x, RM S w0 (σ ++ τ) m' w' ∧ den (σ ++ τ) v = some x ∧ (Instr.buildSlice t k qs.toArray).run P w = .ok x w' := by
  unfold buildSliceV at h
  split at h
  · rename_i e hu
    split at h
    · rename_i s hs
      obtain ⟨ie, hie, rfl⟩ := size_info hs
      split at h
      · rename_i hc
        simp only [Bool.and_eq_true] at hc
        have hpos : 0 < ie.size := by simpa using hc.1.1
        have hsm := Nat.le_of_ble_eq_true hc.1.2
        have hk0 : 0 < k := by simpa using hc.2
        split at h
        · rename_i z hz
          obtain ⟨i2, zv, hi2, hzv, hzd⟩ := zero_den (σ := σ) hz
          rw [hie] at hi2; cases hi2
          split at h
          · rename_i hl
            have hl := Nat.eq_of_beq_eq_true hl
            have hzl := denL_length hzd
            have hzs : zv.cells.size = ie.size := by rw [← hl, ← hzl]; simp
            split at h
            · rename_i l hf
              · simp only [Mem.new, Option.some.injEq, Prod.mk.injEq] at h
                obtain ⟨rfl, rfl⟩ := h
                obtain ⟨ys, hy1, hy2⟩ := fill_den hf (rep_den hzd k) h1 h2
                have hmd := made_rep zv.cells (by omega) k
                have hrun := run_buildSlice (P := P) w t e k qs.toArray ys.toArray ie zv hu hie hzv (by omega) (by
                  have : 0 < k * ie.size := Nat.mul_pos (by omega) hpos
                  omega) (by
                  have e1 : (Array.range (k * ie.size)).map (zv.cells[· % zv.cells.size]!) = madeCells zv.cells (k * zv.cells.size) := by unfold madeCells; rw [hzs]
                  rw [e1, hmd]
                  exact hy2)
                exact ⟨_, _, _, new_cells hM hy1, den_new_slice hM, hrun⟩
            · cases h
          · cases h
        · cases h
      · cases h
    · cases h
  · cases h

theorem makeSlice_sound (hM : RM S w0 σ m w) {t : TypeId} {l c v : V} {x y : Value} (h : makeSliceV P m t l c = some (v, m')) (hx : den σ l = some x) (hy : den σ c = some y) :
    ∃ τ w' z, RM S w0 (σ ++ τ) m' w' ∧ den (σ ++ τ) v = some z ∧ (Instr.makeSlice t x y).run P w = .ok z w' := by
  unfold makeSliceV at h
  split at h
  · rename_i l c
    cases (den_int hx)
    cases (den_int hy)
    split at h
    · rename_i e hu
      split at h
      · rename_i i hi
        split at h
        · rename_i hc
          simp only [Bool.and_eq_true] at hc
          obtain ⟨⟨⟨hc1, hc2⟩, hc3⟩, hc4⟩ := hc
          have hc1 := Nat.eq_of_beq_eq_true hc1
          have hc2 := Nat.le_of_ble_eq_true hc2
          have hc3 := Nat.le_of_ble_eq_true hc3
          have hpos : 0 < i.size := by simpa using hc4
          subst hc1
          split at h
          · rename_i z hz
            obtain ⟨i2, zv, hi2, hzv, hzd⟩ := zero_den (σ := σ) hz
            rw [hi] at hi2; cases hi2
            split at h
            · rename_i hl
              have hl := Nat.eq_of_beq_eq_true hl
              have hzl := denL_length hzd
              have hzs : zv.cells.size = i.size := by rw [← hl, ← hzl]; simp
              simp only [Mem.new, Option.some.injEq, Prod.mk.injEq] at h
              obtain ⟨rfl, rfl⟩ := h
              have hrun := run_make (P := P) w t e i zv hu hi hzv .i64 .i64 (l : Int) (l : Int) (by omega) (by omega) (by
                have : (i.bytes : Int) * (l : Int) = ((l * i.bytes : Nat) : Int) := by rw [Nat.mul_comm]; simp
                rw [this]; omega) (by omega)
              simp only [Int.toNat_natCast] at hrun
              have hmd := made_rep zv.cells (by omega) l
              rw [hzs] at hmd
              rw [hmd] at hrun
              exact ⟨_, _, _, new_cells hM (rep_den hzd l), den_new_slice hM, hrun⟩
            · cases h
          · cases h
        · cases h
      · cases h
    · cases h
  · cases h
end
end Go.Proofs.Ytkjfhkhcoenanaa.Sy
