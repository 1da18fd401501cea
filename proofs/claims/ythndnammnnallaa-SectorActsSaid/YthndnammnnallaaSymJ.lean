/- The evaluator over memory known by name: operations that make memory, or write it, are sound. -/
import Derived.Test.YthndnammnnallaaSymI
import Derived.Laws.MakeOwn
namespace Go.Proofs.Ythndnammnnallaa.Sy
open Go.RowKit

def repV (z : List Value) : Nat → List Value
  | 0 => []
  | n + 1 => z ++ repV z n
theorem repV_length (z : List Value) : ∀ n, (repV z n).length = n * z.length
  | 0 => by simp [repV]
  | n + 1 => by simp only [repV, List.length_append, repV_length z n]; rw [Nat.add_mul]; omega
theorem repV_get (z : List Value) (hz : 0 < z.length) : ∀ (n k : Nat), k < n * z.length → (repV z n)[k]? = z[k % z.length]?
  | 0, k, h => by omega
  | n + 1, k, h => by
    simp only [repV]
    by_cases hk : k < z.length
    · rw [List.getElem?_append_left hk, Nat.mod_eq_of_lt hk]
    · have hk : z.length ≤ k := by omega
      rw [List.getElem?_append_right hk, repV_get z hz n (k - z.length) (by rw [Nat.add_mul] at h; omega)]
      rw [Nat.mod_eq_sub_mod hk]
theorem made_rep (z : Array Value) (hz : 0 < z.size) (n : Nat) : madeCells z (n * z.size) = (repV z.toList n).toArray := by
  apply Array.ext_getElem?
  intro k
  have hl := repV_length z.toList n
  have hz' : z.toList.length = z.size := by simp
  by_cases hk : k < n * z.size
  · have := repV_get z.toList (by omega) n k (by rw [hz']; exact hk)
    have e : (repV z.toList n).toArray[k]? = (repV z.toList n)[k]? := by simp
    rw [e, this, hz']
    have hm : k % z.size < z.size := Nat.mod_lt _ hz
    simp [madeCells, hk, hm]
  · rw [Array.getElem?_eq_none (by rw [size_madeCells]; omega), Array.getElem?_eq_none (by simp [hl]; omega)]

section
variable {S : List Nat} {w0 w w' : World} {ρ : Nat → Int} {g : G} {σ : List (Nat × Nat)} {m m' : Mem} {P : Program} {n : Nat} {tm : TM} {a : Act} {o : Oper}

theorem rep_den {z : List V} {zs : List Value} (h : denL ρ σ z = some zs) : ∀ k, denL ρ σ (rep z k) = some (repV zs k)
  | 0 => denL_nil
  | k + 1 => denL_append h (rep_den h k)

/-- what comes of an operation that makes memory, or writes it -/
def MRes (P : Program) (ρ : Nat → Int) (S : List Nat) (w0 : World) (σ : List (Nat × Nat)) (a : Act) (w : World) (o : Oper) (v : V) (m' : Mem) : Prop :=
  ∃ τ w' x, RM ρ S w0 (σ ++ τ) m' w' ∧ den ρ (σ ++ τ) v = some x ∧ ((execOp a.eval o).run P w = .ok (.value x) w' ∨ ((execOp a.eval o).run P w = .ok .skip w' ∧ x = undef))

theorem den_new {b c o : Nat} (hM : RM ρ S w0 σ m w) : den ρ (σ ++ [(b, c)]) (.ptr m.next o) = some (.pointer (some ⟨b, o, none⟩)) := by
  simp only [den]
  rw [← hM.len, get_last]
theorem den_new_slice {b c o l : Nat} {cp : Cp} (hM : RM ρ S w0 σ m w) : den ρ (σ ++ [(b, c)]) (.slice m.next o l cp) = some (.slice (some ⟨b, o, none⟩) l (cp.den c)) := by
  simp only [den]
  rw [← hM.len, get_last]
/-- a new block of cells -/
theorem new_cells (hM : RM ρ S w0 σ m w) {t : TypeId} {n : Nat} {cs : PT V} {xs : Array Value} (h : cellsOk ρ σ xs n cs) (hn : xs.size = n) : RM ρ S w0 (σ ++ [(w.heap.size, 0)]) (m.new (.cells t n cs)).2 (w.alloc (.cells xs t)) :=
  hM.new_blk (Ext1.alloc w _) ⟨xs, t, heap_alloc_new w _, cellsOk_pre h, hn⟩
theorem cellsOk_ofL {l : List V} {ys : List Value} (h : denL ρ σ l = some ys) (d : Nat) : cellsOk ρ σ ys.toArray l.length (PT.ofL d l) := by
  refine ⟨by simp [denL_length h], fun i v _ hv => ?_⟩
  obtain ⟨x, h1, h2⟩ := denL_nth h (PT.get_ofL _ _ _ _ hv)
  exact ⟨x, h2, by simpa using h1⟩
theorem cellsOk_none {cur : Array Value} {n d : Nat} (h : n ≤ cur.size) : cellsOk ρ σ cur n (PT.full none d) :=
  ⟨h, fun i v _ hv => by have := PT.get_full _ _ _ _ hv; cases this⟩
theorem spliced {L ys : List Value} {q i : Nat} (h : q + ys.length ≤ L.length) : (L.take q ++ ys ++ L.drop (q + ys.length))[i]? = if i < q then L[i]? else if i < q + ys.length then ys[i - q]? else L[i]? := by
  have hq : (L.take q).length = q := by rw [List.length_take]; omega
  split
  · rename_i hi; (try have hi := ti_info hi)
    rw [List.append_assoc, List.getElem?_append_left (by omega), List.getElem?_take, if_pos hi]
  · rename_i hi; (try have hi := ti_info hi)
    split
    · rename_i hi2
      rw [List.append_assoc, List.getElem?_append_right (by omega), List.getElem?_append_left (by omega), hq]
    · rename_i hi2
      rw [List.getElem?_append_right (by simp only [List.length_append]; omega), List.getElem?_drop]
      congr 1
      simp only [List.length_append]
      omega
/-- cells that are written -/
theorem cellsOk_put {cur : Array Value} {n q : Nat} {cs : PT V} {l : List V} {ys : List Value} (h : cellsOk ρ σ cur n cs) (hd : denL ρ σ l = some ys) (hq : q + ys.length ≤ cur.size) :
    cellsOk ρ σ (cur.toList.take q ++ ys ++ cur.toList.drop (q + ys.length)).toArray n (cs.setN q l) := by
  have hl := denL_length hd
  refine ⟨?_, fun i v hi hv => ?_⟩
  · have := h.1
    simp only [List.size_toArray, List.length_append, List.length_take, List.length_drop, Array.length_toList]
    omega
  · have e := spliced (L := cur.toList) (ys := ys) (q := q) (i := i) (by simpa using hq)
    have e2 : ∀ l : List Value, l.toArray[i]? = l[i]? := fun l => by simp
    rw [e2, e]
    rcases PT.get_setN _ _ _ _ _ hv with ⟨h1, h2⟩ | ⟨h1, h2⟩
    · obtain ⟨x, h3, h4⟩ := denL_nth hd h2
      have hlt : i - q < ys.length := by
        rcases Nat.lt_or_ge (i - q) ys.length with h5 | h5
        · exact h5
        · rw [List.getElem?_eq_none h5] at h3; cases h3
      rw [if_neg (by omega), if_pos (by omega)]
      exact ⟨x, h4, h3⟩
    · obtain ⟨x, h3, h4⟩ := h.2 i v hi h2
      refine ⟨x, h3, ?_⟩
      have h4 : cur.toList[i]? = some x := by simpa using h4
      split
      · exact h4
      · rw [if_neg (by omega)]; exact h4

theorem upd_setRow (w : World) (g : Nat) (cs : Array Value) : Upd1 g w (w.setRow g cs) := ⟨rfl, rfl, rfl, by simp [World.setRow], fun i hi => setRow_other w g i cs hi⟩

theorem with_cells {k : Blk} {l : PT V} (h : k.isCells = true) : (k.with l).isCells = true := by cases k <;> first | rfl | cases h

theorem isRow_ro {k : Blk} (h : k.isRow = true) : k.ro = false := by
  cases k <;> first | rfl | (cases h; done) | (simp only [Blk.isRow, Bool.not_eq_true'] at h; exact h)
theorem storeW_sound (hM : RM ρ S w0 σ m w) {t : TypeId} {b q : Nat} {v : V} {x : Value} (hown : ∀ y, σ[b]? = some y → w0.heap.size ≤ y.1 ∨ y.1 ∈ S) (h : storeW P m t b q v = some m') (hx : den ρ σ v = some x) :
    ∃ y w', σ[b]? = some y ∧ RM ρ S w0 σ m' w' ∧ (storeVar t ⟨y.1, q, none⟩ x).run P w = .ok () w' := by
  unfold storeW at h
  · cases hg : m.blks.get b with
    | none => simp only [hg] at h; cases h
    | some k =>
      simp only [hg] at h
      cases hz : size? P t with
      | none => simp only [hz] at h; cases h
      | some z =>
        simp only [hz] at h
        cases hc : (Nat.beq z (cellsOf v).length && allOne (cellsOf v) && k.isRow && Nat.ble (q + z) k.size) with
        | false => simp only [hc] at h; cases h
        | true =>
          simp only [hc, Option.some.injEq] at h
          subst h
          simp only [Bool.and_eq_true] at hc
          obtain ⟨⟨⟨hc1, hc2⟩, hlive⟩, hle⟩ := hc
          have hc1 := Nat.eq_of_beq_eq_true hc1
          have hle := Nat.le_of_ble_eq_true hle
          obtain ⟨b', c', hsb, hh⟩ := hM.blk b k hg
          have hxc := cells_den hx
          have hxl := denL_length hxc
          have h1 := allOne_den hxc hc2
          have hxs : x.cells.toList.length = x.cells.size := Array.length_toList
          refine ⟨(b', c'), ?_⟩
          have fin : ∀ (t' : TypeId) (cur : Array Value), w.heap[b']? = some (.cells cur t' (0, 0)) → q + x.cells.toList.length ≤ cur.size → (storeVar t ⟨b', q, none⟩ x).run P w = .ok () (w.setRow b' (cur.toList.take q ++ x.cells.toList ++ cur.toList.drop (q + x.cells.toList.length)).toArray) := by
            intro t' cur hcur hfit
            have hr := run_storeCells_at P b' q t' x.cells.toList 0 cur w hcur (by simpa using hfit) h1
            simp only [Nat.add_zero] at hr
            have hsz : x.cells.size = z := by rw [hc1, ← hxl]; simp
            unfold storeVar
            simp only [Sem.run_bind, size_run hz w, Result.andThen_ok, hsz, ne_eq, not_true_eq_false, if_false, Sem.run_pure, hr]
          have keep : ∀ (cur : Array Value), q + x.cells.toList.length ≤ cur.size → (cur.toList.take q ++ x.cells.toList ++ cur.toList.drop (q + x.cells.toList.length)).toArray.size = cur.size := by
            intro cur hfit
            simp only [List.size_toArray, List.length_append, List.length_take, List.length_drop, Array.length_toList] at hfit ⊢
            omega
          cases k with
          | cells t' n cs =>
            obtain ⟨cur, t', hcur, hok, hn⟩ := hh
            simp only [Blk.size] at hle
            have hfit : q + x.cells.toList.length ≤ cur.size := by omega
            exact ⟨_, hsb, hM.upd_blkW hg hsb rfl (isRow_ro hlive) (hown _ hsb) (upd_setRow w b' _) ⟨_, t', setRow_heap w b' _ _ t' _ hcur, cellsOk_put hok hxc hfit, by rw [keep cur hfit]; exact hn⟩, fin t' cur hcur hfit⟩
          | row t' z' n cs =>
            obtain ⟨cur, hcur, hok, hsz, hcm, hz0⟩ := hh
            simp only [Blk.size] at hle
            have hfit : q + x.cells.toList.length ≤ cur.size := by have := hok.1; omega
            exact ⟨_, hsb, hM.upd_blkW hg hsb rfl (isRow_ro hlive) (hown _ hsb) (upd_setRow w b' _) ⟨_, setRow_heap w b' _ _ t' _ hcur, cellsOk_put hok hxc hfit, by rw [keep cur hfit]; exact hsz, hcm, hz0⟩, fin t' cur hcur hfit⟩
          | gone => cases hlive
          | map _ => cases hlive
          | arr _ _ _ => cases hlive
          | fn _ _ _ => cases hlive
          | iter _ _ _ => cases hlive

theorem store_sound (hM : RM ρ S w0 σ m w) {t : TypeId} {b q : Nat} {v : V} {x : Value} (h : store P m t b q v = some m') (hx : den ρ σ v = some x) :
    ∃ y w', σ[b]? = some y ∧ RM ρ S w0 σ m' w' ∧ (storeVar t ⟨y.1, q, none⟩ x).run P w = .ok () w' := by
  unfold store at h
  split at h
  · cases h
  · rename_i hlim
    exact storeW_sound hM (fun y hy => hM.own b y.1 y.2 (Nat.le_of_ble_eq_true hlim) hy) h hx

theorem fillP_den {s k : Nat} : ∀ {ps : List (Nat × V)} {qs : List (Nat × Value)} {cs cs' : PT V} {cur : Array Value}, fillP s k cs ps = some cs' → cur.size = k * s → cellsOk ρ σ cur (k * s) cs →
    (ps.map (·.1) = qs.map (·.1)) → denL ρ σ (ps.map (·.2)) = some (qs.map (·.2)) → ∃ cur', Instr.fill (fun i => some (i * s, s)) cur qs = some cur' ∧ cur'.size = k * s ∧ cellsOk ρ σ cur' (k * s) cs'
  | [], qs, cs, cs', cur, h, hn, hc, hq, _ => by
    have : qs = [] := by simpa using hq.symm
    subst this
    simp only [fillP, Option.some.injEq] at h
    subst h
    exact ⟨cur, by simp [Instr.fill], hn, hc⟩
  | (i, v) :: ps, [], _, _, _, _, _, _, hq, _ => by simp at hq
  | (i, v) :: ps, (j, x) :: qs, cs, cs', cur, h, hn, hc, hq, hd => by
    simp only [List.map_cons, List.cons.injEq] at hq
    obtain ⟨rfl, hq⟩ := hq
    simp only [List.map_cons] at hd
    obtain ⟨x', z', h1, h2, e⟩ := denL_cons_eq hd
    simp only [List.cons.injEq] at e
    obtain ⟨rfl, rfl⟩ := e
    simp only [fillP] at h
    split at h
    · cases h
    · rename_i hz
      simp only [Bool.and_eq_true] at hz
      obtain ⟨hz, hik⟩ := hz
      have hz := Nat.eq_of_beq_eq_true hz
      have hik : i < k := by simpa using hik
      have hxc := cells_den h1
      have hlen := denL_length hxc
      have hsz : x.cells.size = s := by rw [← hz, ← hlen]; simp
      have hmul : i * s + s ≤ k * s := by
        have : (i + 1) * s ≤ k * s := Nat.mul_le_mul_right _ hik
        rwa [Nat.succ_mul] at this
      have hsl : x.cells.toList.length = s := by rw [Array.length_toList]; exact hsz
      have hfit : i * s + x.cells.toList.length ≤ cur.size := by omega
      have hfold := foldl_set x.cells.toList (i * s) 0 cur (by simpa using hfit)
      have e3 : x.cells.zipIdx.foldl (fun cs (c, j) => cs.setIfInBounds (i * s + j) c) cur = (cur.toList.take (i * s) ++ x.cells.toList ++ cur.toList.drop (i * s + x.cells.toList.length)).toArray := by
        rw [← Array.foldl_toList, Array.toList_zipIdx]
        simpa using hfold
      have hput := cellsOk_put hc hxc hfit
      obtain ⟨cur', f1, f2, f3⟩ := fillP_den h (by rw [← hn]; simp only [List.size_toArray, List.length_append, List.length_take, List.length_drop, Array.length_toList] at hfit ⊢; omega) hput hq h2
      refine ⟨cur', ?_, f2, f3⟩
      simp only [Instr.fill]
      have hno : (x.cells.size ≠ s || i * s + x.cells.size > cur.size) = false := by
        have h1 : decide (x.cells.size ≠ s) = false := by simp [hsz]
        have h2 : decide (i * s + x.cells.size > cur.size) = false := by rw [decide_eq_false_iff_not]; omega
        simp only [h1, h2, Bool.or_self]
      rw [if_neg (by rw [hno]; decide)]
      rw [e3]
      exact f1

theorem buildSlice_sound (hM : RM ρ S w0 σ m w) {t : TypeId} {k : Nat} {ps : List (Nat × V)} {qs : List (Nat × Value)} {v : V} (h : buildSliceV P m t k ps = some (v, m')) (h1 : ps.map (·.1) = qs.map (·.1)) (h2 : denL ρ σ (ps.map (·.2)) = some (qs.map (·.2))) :
    ∃ τ w' x, RM ρ S w0 (σ ++ τ) m' w' ∧ den ρ (σ ++ τ) v = some x ∧ (Instr.buildSlice t k qs.toArray).run P w = .ok x w' := by
  unfold buildSliceV at h
  split at h
  · rename_i e hu; (try have hu := und_eq hu)
    split at h
    · rename_i s hs
      obtain ⟨ie, hie, rfl⟩ := size_info hs
      split at h
      · rename_i hc
        simp only [Bool.and_eq_true] at hc
        have hpos : 0 < ie.size := by simpa using hc.1.1
        have hsm := Nat.le_of_ble_eq_true hc.1.2
        have hk0 : 0 < k := by simpa using hc.2
        split at h
        · rename_i z hz
          obtain ⟨i2, zv, hi2, hzv, hzd⟩ := zero_den (ρ := ρ) (σ := σ) hz
          rw [hie] at hi2; cases hi2
          split at h
          · rename_i hl
            have hl := Nat.eq_of_beq_eq_true hl
            have hzl := denL_length hzd
            have hzs : zv.cells.size = ie.size := by rw [← hl, ← hzl]; simp
            split at h
            · rename_i l hf; (try have hf := fn_eq hf)
              · simp only [Mem.new, Option.some.injEq, Prod.mk.injEq] at h
                obtain ⟨rfl, rfl⟩ := h
                have hms : (madeCells zv.cells (k * ie.size)).size = k * ie.size := by rw [size_madeCells]
                obtain ⟨cur', f1, f2, f3⟩ := fillP_den hf hms (cellsOk_none (by omega)) h1 h2
                have hrun := run_buildSlice (P := P) w t e k qs.toArray cur' ie zv hu hie hzv (by omega) (by
                  have : 0 < k * ie.size := Nat.mul_pos (by omega) hpos
                  omega) (by
                  have e1 : (Array.range (k * ie.size)).map (zv.cells[· % zv.cells.size]!) = madeCells zv.cells (k * ie.size) := rfl
                  rw [e1]
                  exact f1)
                exact ⟨_, _, _, new_cells hM f3 f2, den_new_slice hM, hrun⟩
            · cases h
          · cases h
        · cases h
      · cases h
    · cases h
  · cases h

theorem zerosP_ok {z : List V} {zs : List Value} (h : denL ρ σ z = some zs) (hpos : 0 < z.length) (k : Nat) : cellsOk ρ σ (repV zs k).toArray (k * z.length) (zerosP z k) := by
  have hl := denL_length h
  refine ⟨by simp [repV_length, hl], fun i v hi hv => ?_⟩
  have e2 : ∀ l : List Value, l.toArray[i]? = l[i]? := fun l => by simp
  rw [e2]
  unfold zerosP at hv
  split at hv
  · have := PT.get_full _ _ _ _ hv
    simp only [Option.some.injEq] at this
    subst this
    obtain ⟨x, zs', h1, h2, rfl⟩ := denL_cons_eq h
    rw [denL_nil] at h2
    cases h2
    refine ⟨x, h1, ?_⟩
    rw [repV_get [x] (by simp) k i (by simpa using hi)]
    simp [Nat.mod_one]
  · obtain ⟨x, h1, h2⟩ := denL_nth (rep_den h k) (PT.get_ofL _ _ _ _ hv)
    exact ⟨x, h2, h1⟩

theorem makeSlice_sound (hM : RM ρ S w0 σ m w) {t : TypeId} {l c v : V} {x y : Value} (h : makeSliceV P m t l c = some (v, m')) (hx : den ρ σ l = some x) (hy : den ρ σ c = some y) :
    ∃ τ w' z, RM ρ S w0 (σ ++ τ) m' w' ∧ den ρ (σ ++ τ) v = some z ∧ (Instr.makeSlice t x y).run P w = .ok z w' := by
  unfold makeSliceV at h
  split at h
  · rename_i l c
    cases (den_int hx)
    cases (den_int hy)
    split at h
    · rename_i e hu; (try have hu := und_eq hu)
      split at h
      · rename_i i hi; (try have hi := ti_info hi)
        split at h
        · rename_i hc
          simp only [Bool.and_eq_true] at hc
          obtain ⟨⟨⟨hc1, hc2⟩, hc3⟩, hc4⟩ := hc
          have hc1 := Nat.eq_of_beq_eq_true hc1
          have hc2 := Nat.le_of_ble_eq_true hc2
          have hc3 := Nat.le_of_ble_eq_true hc3
          have hpos : 0 < i.size := by simpa using hc4
          subst hc1
          split at h
          · rename_i z hz
            obtain ⟨i2, zv, hi2, hzv, hzd⟩ := zero_den (ρ := ρ) (σ := σ) hz
            rw [hi] at hi2; cases hi2
            split at h
            · rename_i hl
              have hl := Nat.eq_of_beq_eq_true hl
              have hzl := denL_length hzd
              have hzs : zv.cells.size = i.size := by rw [← hl, ← hzl]; simp
              simp only [Mem.new, Option.some.injEq, Prod.mk.injEq] at h
              obtain ⟨rfl, rfl⟩ := h
              have hrun := run_make (P := P) w t e i zv hu hi hzv .i64 .i64 (l : Int) (l : Int) (by omega) (by omega) (by
                have : (i.bytes : Int) * (l : Int) = ((l * i.bytes : Nat) : Int) := by rw [Nat.mul_comm]; simp
                rw [this]; omega) (by omega)
              simp only [Int.toNat_natCast] at hrun
              have hmd := made_rep zv.cells (by omega) l
              rw [hzs] at hmd
              rw [hmd] at hrun
              have hzo := zerosP_ok hzd (by omega) l
              rw [hl] at hzo
              exact ⟨_, _, _, new_cells hM hzo (by simp [repV_length, hzs]), den_new_slice hM, hrun⟩
            · cases h
          · cases h
        · cases h
      · cases h
    · cases h
  · cases h

/-! ### rows of numbers of whatever length -/
theorem stFn_sound (hg : Gok ρ g) (hM : RM ρ S w0 σ m w) {t : TypeId} {b z j : Nat} {o' i : E} {k : IntKind} {v : DN} (h : stFn P g m t b o' z i j k v = some m') :
    ∃ y w', σ[b]? = some y ∧ RM ρ S w0 σ m' w' ∧ (storeVar t ⟨y.1, (o'.val ρ).toNat + (i.val ρ).toNat * z + j, none⟩ (.int k (v.val ρ))).run P w = .ok () w' := by
  unfold stFn at h
  split at h
  · rename_i k' n f hb
    have hb := fnAt_get hb
    split at h
    · rename_i hc
      simp only [Bool.and_eq_true] at hc
      obtain ⟨⟨⟨⟨⟨⟨h0, h1⟩, h2⟩, h3⟩, h4⟩, h5⟩, h6⟩ := hc
      have e0 := kindNo_inj h0
      have hlim := Nat.le_of_ble_eq_true h1
      have e1 := zeroE_ok (ρ := ρ) h2
      have e2 := Nat.eq_of_beq_eq_true h3
      have e3 := Nat.eq_of_beq_eq_true h4
      subst e0; subst e2; subst e3
      have b1 : ¬ i.val ρ < 0 := of_decide_eq_false (dec_ok hg _ _ (isF_ok h5))
      have b2 : i.val ρ < n.val ρ := of_decide_eq_true (dec_ok hg _ _ (isT_ok h6))
      split at h
      · rename_i sz hz
        split at h
        · rename_i hs1
          have hs1 := Nat.eq_of_beq_eq_true hs1
          cases h
          obtain ⟨b', c', hs, cur, t', hcur, hok⟩ := hM.blk _ _ hb
          have hq : (i.val ρ).toNat < cur.size := (Array.getElem?_eq_some_iff.1 (hok (i.val ρ).toNat (by omega))).1
          refine ⟨(b', c'), w.setRow b' (cur.toList.take (i.val ρ).toNat ++ [Value.int k (v.val ρ)] ++ cur.toList.drop ((i.val ρ).toNat + 1)).toArray, hs, ?_, ?_⟩
          · refine hM.upd_blk hb hs rfl rfl hlim (upd_setRow w b' _) ⟨_, t', setRow_heap w b' _ _ t' _ hcur, fun p hp => ?_⟩
            have e4 : ∀ l : List Value, l.toArray[p]? = l[p]? := fun l => by simp
            have sp := spliced (L := cur.toList) (ys := [Value.int k (v.val ρ)]) (q := (i.val ρ).toNat) (i := p) (by simp; omega)
            simp only [List.length_cons, List.length_nil, Nat.zero_add] at sp
            rw [e4, sp]
            simp only [CF.val]
            have hold := hok p hp
            have hold : cur.toList[p]? = some (.int k (f.val ρ k p)) := by simpa using hold
            by_cases h7 : i.val ρ = (p : Int)
            · rw [if_pos h7, if_neg (by omega), if_pos (by omega)]
              have : p - (i.val ρ).toNat = 0 := by omega
              rw [this]; rfl
            · rw [if_neg h7]
              by_cases h8 : p < (i.val ρ).toNat
              · rw [if_pos h8]; exact hold
              · rw [if_neg h8, if_neg (by omega)]; exact hold
          · have hr := run_storeCells_at P b' (i.val ρ).toNat t' [Value.int k (v.val ρ)] 0 cur w hcur (by simp; omega) (fun x hx => by
              simp only [List.mem_cons, List.not_mem_nil, or_false] at hx
              subst hx; rfl)
            simp only [Nat.add_zero, List.length_cons, List.length_nil, Nat.zero_add] at hr
            have hcs : (Value.int k (v.val ρ)).cells.toList = [Value.int k (v.val ρ)] := rfl
            have hsz : (Value.int k (v.val ρ)).cells.size = 1 := rfl
            unfold storeVar
            simp only [Sem.run_bind, size_run hz w, Result.andThen_ok, hsz, hs1, ne_eq, not_true_eq_false, if_false, Sem.run_pure, hcs, e1, Int.toNat_zero, Nat.zero_add, Nat.mul_one, Nat.add_zero, hr]
        · cases h
      · cases h
    · cases h
  · cases h
theorem mkFn_sound {K : V × Mem → Prop} (hg : Gok ρ g) (hM : RM ρ S w0 σ m w) {t : TypeId} {l : E} {r : T (V × Mem)} (h : mkFn P g m t l = some r) (hK : r.all ρ K) :
    ∃ v m', K (v, m') ∧ ∃ τ w' z, RM ρ S w0 (σ ++ τ) m' w' ∧ den ρ (σ ++ τ) v = some z ∧ (Instr.makeSlice t (.int .i64 (l.val ρ)) (.int .i64 (l.val ρ))).run P w = .ok z w' := by
  unfold mkFn at h
  split at h
  · rename_i e hu
    have hu := und_eq hu
    split at h
    · rename_i i k z lo hi hti hue hz hr
      have hti := ti_info hti
      split at h
      · rename_i hc
        cases h
        simp only [Bool.and_eq_true] at hc
        obtain ⟨⟨⟨⟨h1, h2⟩, h3⟩, h4⟩, h5⟩ := hc
        have h1 := Nat.eq_of_beq_eq_true h1
        have h2 := Nat.le_of_ble_eq_true h2
        simp only [leI_eq, decide_eq_true_eq] at h4 h5
        have hin := rng_in hg _ _ hr
        have r1 : lo ≤ l.val ρ := hin.1
        have r2 : l.val ρ ≤ hi := hin.2
        obtain ⟨i2, zv, hi2, hzv, hzd⟩ := zero_den (ρ := ρ) (σ := σ) hz
        rw [hti] at hi2; cases hi2
        have hzc : zv.cells.toList = [Value.int k 0] := by
          unfold isZ at h3
          split at h3
          · rename_i k' n
            simp only [Bool.and_eq_true, eqI_eq, decide_eq_true_eq] at h3
            have := kindNo_inj h3.1
            subst this
            obtain ⟨h6, h7⟩ := h3
            subst h7
            simp only [denL, den, DN.val, Option.some.injEq] at hzd
            exact hzd.symm
          · cases h3
        have hzs : zv.cells.size = 1 := by rw [← Array.length_toList, hzc]; rfl
        have hbyt : (i.bytes : Int) * l.val ρ ≤ 281474976710656 := by
          have e1 : (i.bytes : Int) ≤ 10 := by omega
          have e2 : (0 : Int) ≤ i.bytes := by omega
          have : (i.bytes : Int) * l.val ρ ≤ 10 * l.val ρ := Int.mul_le_mul_of_nonneg_right e1 (by omega)
          omega
        have hrun := run_make (P := P) w t e i zv hu hti hzv .i64 .i64 (l.val ρ) (l.val ρ) (by omega) (Int.le_refl _) hbyt (by omega)
        refine ⟨_, _, hK, [(w.heap.size, (l.val ρ).toNat)], _, _, hM.new_blk (Ext1.alloc w _) (k := .fn k l .zero) ⟨_, e, heap_alloc_new w _, ?_⟩, ?_, hrun⟩
        · intro q hq
          have hz0 : zv.cells = #[Value.int k 0] := by apply Array.toList_inj.1; rw [hzc]
          have hq2 : q < (l.val ρ).toNat * 1 := by omega
          rw [h1, hz0]
          have e1 : (madeCells #[Value.int k 0] ((l.val ρ).toNat * 1))[q]? = some (Value.int k 0) := by
            simp only [madeCells, Array.getElem?_map]
            rw [Array.getElem?_eq_getElem (by simpa using hq2)]
            simp
            have : q % 1 = 0 := Nat.mod_one q
            simp [this]
          rw [e1]
          rfl
        · simp only [fnNew, Mem.new, den]
          rw [← hM.len, get_last]
          rfl
      · cases h
    · cases h
  · cases h
end
end Go.Proofs.Ythndnammnnallaa.Sy
