/- Walks of the statements' own words: Ours, Theirs. -/
import Derived.Test.YtihlbfbplmehiaaScanK
import Derived.Test.YtihlbfbplmehiaaMemB
namespace Go.Proofs.Ytihlbfbplmehiaa
open Go.RowKit Go.Shelf
set_option maxHeartbeats 4000000

theorem fBlock_one (l : List Int) : ∀ u ∈ fBlock l, u.oneCell' = true := bk_one
theorem ownsRow_nil (w : World) (base : Nat) (e : TypeId) (size : Nat) : w.ownsRow base e size (.slice none 0 0) 0 [] := ⟨by simp, .inl ⟨rfl, rfl⟩⟩
theorem list8 {α : Type} {l : List α} (h : l.length = 8) : ∃ a b c d e f g i, l = [a, b, c, d, e, f, g, i] := by
  match l, h with
  | [a, b, c, d, e, f, g, i], _ => exact ⟨_, _, _, _, _, _, _, _, rfl⟩
def zeros (n : Nat) : List Pg := List.replicate n Pg.zero
/-- the first j pages, and nothing behind them -/
def upto (ps : List Pg) (j : Nat) : List Pg := ps.take j ++ zeros (8 - j)
theorem upto_0 (ps : List Pg) : upto ps 0 = List.replicate 8 Pg.zero := rfl
theorem upto_8 {ps : List Pg} (h : ps.length = 8) : upto ps 8 = ps := by unfold upto zeros; rw [List.take_of_length_le (by omega)]; simp
theorem upto_len {ps : List Pg} (h : ps.length = 8) {j : Nat} (hj : j ≤ 8) : (upto ps j).length = 8 := by unfold upto zeros; simp; omega
theorem upto_succ {ps : List Pg} (h : ps.length = 8) {j : Nat} (hj : j < 8) {p : Pg} (hp : ps[j]? = some p) : (upto ps j).set j p = upto ps (j + 1) := by
  unfold upto zeros
  obtain ⟨m, hm⟩ : ∃ m, 8 - j = m + 1 := ⟨7 - j, by omega⟩
  rw [List.set_append_right _ _ (by simp; omega), hm, List.replicate_succ, show j - (ps.take j).length = 0 by simp; omega, List.set_cons_zero, List.take_add_one, hp, show 8 - (j + 1) = m by omega]
  simp
theorem flat_at {ps : List Pg} {j : Nat} {p : Pg} (hp : ps[j]? = some p) : ((ps.flatMap Pg.cells).drop (j * 7)).take 7 = p.cells := by
  induction ps generalizing j with
  | nil => cases hp
  | cons q ps ih =>
    cases j with
    | zero =>
      simp only [List.getElem?_cons_zero, Option.some.injEq] at hp
      subst hp
      rw [List.flatMap_cons, Nat.zero_mul, List.drop_zero, ← pg_cells_length q, List.take_left]
    | succ j =>
      rw [List.flatMap_cons, show (j + 1) * 7 = q.cells.length + j * 7 by rw [pg_cells_length]; omega, List.drop_length_add_append]
      exact ih (by simpa using hp)
theorem bk_kinds {h c : Int} {ks : List Int} {ps : List Pg} (hk : ks.length = 8) : ((bkCells h c ks ps).drop 2).take 8 = ks.map (.int .i64) := by
  unfold bkCells
  rw [List.append_assoc, show (2 : Nat) = [Value.int .i64 h, Value.int .u32 c].length from rfl, List.drop_left, List.take_append_of_le_length (by simp [hk]), List.take_of_length_le (by simp [hk])]
theorem bk_pages {h c : Int} {ks : List Int} {ps : List Pg} (hk : ks.length = 8) (hp : ps.length = 8) : ((bkCells h c ks ps).drop 10).take 56 = ps.flatMap Pg.cells := by
  unfold bkCells
  rw [show (10 : Nat) = ([Value.int .i64 h, Value.int .u32 c] ++ ks.map (Value.int .i64)).length by simp [hk], List.drop_left, List.take_of_length_le (by rw [flat_len, hp]; omega)]
theorem bksCells_take (bs : List Bk) {k : Nat} {x : Bk} (hx : bs[k]? = some x) : bksCells (bs.take (k + 1)) = bksCells (bs.take k) ++ x.cells := by
  have ht : bs.take (k + 1) = bs.take k ++ [x] := by rw [List.take_add_one, hx]; rfl
  rw [ht]; unfold bksCells; rw [List.flatMap_append]; simp
theorem Bk.one {b : Bk} : ∀ u ∈ b.cells, u.oneCell' = true := bk_one

theorem zero_TheirsB (w : World) : (zeroValue 55).run Try.prog w = .ok (.agg bk0.toArray) w := by
  unfold bk0
  have h : (Try.prog.info? 55).bind (·.zero) = some (.agg (bkCells 0 0 (List.replicate 8 0) (List.replicate 8 Pg.zero)).toArray) := by kernel_rfl
  unfold zeroValue typeInfo
  cases hq : Try.prog.info? 55 with
  | none => rw [hq] at h; cases h
  | some i =>
    rw [hq] at h
    simp only [Option.bind_some] at h
    simp [hq, h]
theorem zero_TheirsI (w : World) : (zeroValue 48).run Try.prog w = .ok (.agg bk0.toArray) w := by
  unfold bk0
  have h : (Try.prog.info? 48).bind (·.zero) = some (.agg (bkCells 0 0 (List.replicate 8 0) (List.replicate 8 Pg.zero)).toArray) := by kernel_rfl
  unfold zeroValue typeInfo
  cases hq : Try.prog.info? 48 with
  | none => rw [hq] at h; cases h
  | some i =>
    rw [hq] at h
    simp only [Option.bind_some] at h
    simp [hq, h]
theorem zero_TheirsP (w : World) : (zeroValue 34).run Try.prog w = .ok Pg.zero.val w := by
  have h : (Try.prog.info? 34).bind (·.zero) = some Pg.zero.val := by kernel_rfl
  unfold zeroValue typeInfo
  cases hq : Try.prog.info? 34 with
  | none => rw [hq] at h; cases h
  | some i =>
    rw [hq] at h
    simp only [Option.bind_some] at h
    simp [hq, h]
theorem built_Theirs (h c : Int) (ks : List Int) (hk : ks.length = 8) : Try.prog.built 55 [(0, .int .i64 h), (1, .int .u32 c), (2, .agg (ks.map (Value.int .i64)).toArray)] = some (bkCells h c ks (List.replicate 8 Pg.zero)).toArray := by
  obtain ⟨k0, k1, k2, k3, k4, k5, k6, k7, rfl⟩ := list8 hk
  kernel_rfl

set_option maxRecDepth 100000 in
theorem Theirs_any (v : Value) (bs : List Bk) (w : World) (hb : Bl w v bs) (hlen : bs.length ≤ 1000) :
    Calls Try.prog 14 #[v] w fun e w' => (∃ r, e = .returned r ∧ w'.ownsRow w.heap.size 55 66 r bs.length (bksCells bs)) ∧ Below w.heap.size w w' := by
  obtain ⟨a, cp, rfl⟩ := hb.shape
  have Hb := Lib.hid hb; clear hb
  go_enter Try.func14, Try.ntmps14
  have Hi66 : Hid ((Try.prog.info? 55).map (·.size) = some 66) := by unfold Hid; kernel_rfl
  have Hj66 : Hid ((Try.prog.info? 48).map (·.size) = some 66) := by unfold Hid; kernel_rfl
  have Hi8 : Hid ((Try.prog.info? 45).map (·.size) = some 8) := by unfold Hid; kernel_rfl
  have Hi56 : Hid ((Try.prog.info? 46).map (·.size) = some 56) := by unfold Hid; kernel_rfl
  have Hi7 : Hid ((Try.prog.info? 34).map (·.size) = some 7) := by unfold Hid; kernel_rfl
  have Hj7 : Hid ((Try.prog.info? 27).map (·.size) = some 7) := by unfold Hid; kernel_rfl
  go_wp2_with fail
  go_loopw [3, 5, 6, 7, 8, 11] (fun o _ _ _ _ i wr => ∃ k : Nat, k ≤ bs.length ∧ i = .int .i64 k ∧ wr.ownsRow w.heap.size 55 66 o k (bksCells (bs.take k)) ∧ Below w.heap.size w wr) (fun _ _ _ _ _ i _ => bs.length - (intOf i).toNat)
  case atStart => exact ⟨0, by omega, rfl, ownsRow_nil _ _ _ _, Below.refl _ _⟩
  case round =>
    obtain ⟨wo, rfl⟩ : ∃ wo : World, wo = wr := ⟨_, rfl⟩
    obtain ⟨k, hk, rfl, ho, hB⟩ := hrel
    have HO := Lib.hid ho; have HB := Lib.hid hB; clear ho hB
    by_cases hlt : k < bs.length
    · obtain ⟨x, hx⟩ : ∃ x, bs[k]? = some x := ⟨_, List.getElem?_eq_getElem hlt⟩
      have Hst := Lib.hid (bksCells_take bs hx)
      obtain ⟨hok, b, off, cap, hv, hbw, hrg⟩ := Hb.out.block hx
      simp only [Value.slice.injEq] at hv
      obtain ⟨rfl, _, rfl⟩ := hv
      have Hrg := Lib.hid (hrg wo HB.out); have Hx := Lib.hid hx; have Hok := Lib.hid hok; clear hrg hx hok
      have HR := Lib.hid (Rn.start HO.out HB.out); clear HO HB
      go_wp2_with (first
        | (refine wpList_load_mid rfl _ _ rfl _ _ rfl _ _ Hrg.out Try.underlying48 rfl (by rw [Bk.cells_length Hok.out]; exact Hj66.out) ?_)
        | (refine al_new rfl rfl (zero_TheirsI _) ?_; intro w1 hn1
           have HA1 : Hid (At w1 wo.heap.size bk0 48) := Lib.hid hn1.to; have HR1 := Lib.hid (HR.out.new hn1); clear hn1 HR)
        | (refine st_agg rfl rfl rfl rfl HA1.out 66 Hj66.out (Bk.cells_length Hok.out) (by decide) Bk.one ?_; intro w2 hu2
           have HA2 : Hid (At w2 wo.heap.size x.cells 48) := Lib.hid (by have h := hu2.to; rw [List.take_zero, List.nil_append, show bk0.drop (0 + 66) = [] from rfl, List.append_nil] at h; exact h)
           have HR2 := Lib.hid (HR1.out.upd hu2 (Nat.le_refl _))
           have hc0 : w2.cell? ⟨wo.heap.size, 0, none⟩ = some (.int .i64 x.h) := HA2.out.cell 0
           have hc1 : w2.cell? ⟨wo.heap.size, 1, none⟩ = some (.int .u32 x.c) := HA2.out.cell 1
           clear hu2 HR1 HA1)
        | (refine ld_agg rfl rfl rfl HA2.out Try.underlying45 rfl 8 Hi8.out (by rw [Bk.cells_length Hok.out]; decide) ?_; rw [show (x.cells.drop 2).take 8 = x.ks.map (.int .i64) from bk_kinds Hok.out.ks])
        | (refine bd_run rfl rfl rfl (built_Theirs _ _ _ Hok.out.ks) ?_; clear hc0 hc1)
        | (refine al_new rfl rfl (zero_TheirsB _) ?_; intro w3 hn3
           have HA3 := Lib.hid (hn3.at HA2.out); have HG3 : Hid (At w3 w2.heap.size bk0 55) := Lib.hid hn3.to; have HR3 := Lib.hid (HR2.out.new hn3)
           have hlt2 : wo.heap.size < w2.heap.size := HA2.out.lt
           clear hn3 HR2 HA2)
        | (refine st_agg rfl rfl rfl rfl HG3.out 66 Hi66.out (bk_length Hok.out.ks rfl) (by decide) bk_one ?_; intro w4 hu4
           have HG4 : Hid (At w4 w2.heap.size (bkCells x.h x.c x.ks (upto x.ps 0)) 55) := Lib.hid (by have h := hu4.to; rw [List.take_zero, List.nil_append, show bk0.drop (0 + 66) = [] from rfl, List.append_nil] at h; exact h)
           have HA4 := Lib.hid (hu4.at HA3.out (by omega))
           have HR4 := Lib.hid (HR3.out.upd hu4 (by omega)); clear hu4 HR3 HG3 HA3)
        | (refine ld_agg rfl rfl rfl HA4.out Try.underlying46 rfl 56 Hi56.out (by rw [Bk.cells_length Hok.out]; decide) ?_; rw [show (x.cells.drop 10).take 56 = x.ps.flatMap Pg.cells from bk_pages Hok.out.ks Hok.out.ps]; clear HA4)
        | fail)
      generalize w2.heap.size = g at *
      go_loopw [7, 8, 24] (fun _ _ i W => ∃ j : Nat, j ≤ 8 ∧ i = .int .i64 j ∧ At W g (bkCells x.h x.c x.ks (upto x.ps j)) 55 ∧ Rn w wo W 55 66 u3 k (bksCells (bs.take k))) (fun _ _ i _ => 8 - (intOf i).toNat)
      case atStart => exact ⟨0, by omega, rfl, HG4.out, HR4.out⟩
      case round =>
        clear HG4 HR4
        obtain ⟨j, hj, rfl, hG, hR⟩ := hrel
        have HG := Lib.hid hG; have HR := Lib.hid hR; clear hG hR
        by_cases hj8 : j < 8
        · obtain ⟨p, hp⟩ : ∃ p, x.ps[j]? = some p := ⟨_, List.getElem?_eq_getElem (by rw [Hok.out.ps]; exact hj8)⟩
          have Hp := Lib.hid hp; clear hp
          go_wp2_with (first
            | (refine ix_agg rfl rfl rfl rfl Try.underlying46 Try.underlying34 rfl hj8 7 Hi7.out ?_; rw [flat_at Hp.out])
            | (refine al_new rfl rfl (zero_TheirsP _) ?_; intro w5 hn5
               have HG5 := Lib.hid (hn5.at HG.out); have HR5 := Lib.hid (HR.out.new hn5); have HP5 : Hid (At w5 wr.heap.size Pg.zero.cells 34) := Lib.hid hn5.to
               have hlt5 : g < wr.heap.size := HG.out.lt
               have hsz5 : wo.heap.size ≤ wr.heap.size := HR.out.size
               clear hn5 HG HR)
            | (refine st_agg (cs := p.cells) rfl rfl rfl rfl HP5.out 7 Hi7.out rfl (by decide) (by simp [Pg.cells, Value.oneCell']) ?_; intro w6 hu6
               have HG6 := Lib.hid (hu6.at HG5.out (by omega)); have HP6 : Hid (At w6 wr.heap.size p.cells 34) := Lib.hid hu6.to; have HR6 := Lib.hid (HR5.out.upd hu6 hsz5); clear hu6 HG5 HP5 HR5)
            | (refine ld_agg rfl rfl rfl HP6.out Try.underlying34 rfl 7 Hi7.out (Nat.le_refl 7) ?_)
            | (refine st_agg (cs := p.cells) rfl rfl rfl rfl HG6.out 7 Hj7.out rfl (by rw [bk_length Hok.out.ks (upto_len Hok.out.ps (Nat.le_of_lt hj8))]; omega) (by simp [Pg.cells, Value.oneCell']) ?_; intro w7 hu7
               have HG7 : Hid (At w7 g (bkCells x.h x.c x.ks (upto x.ps (j + 1))) 55) := Lib.hid (by have h := hu7.to; rwa [bk_set_page' Hok.out.ks (upto_len Hok.out.ps (Nat.le_of_lt hj8)) hj8, upto_succ Hok.out.ps hj8 Hp.out] at h)
               have HR7 := Lib.hid (HR6.out.upd hu7 (by omega)); clear hu7 HG6 HP6 HR6)
            | fail)
          exact ⟨⟨j + 1, by omega, by go_num, HG7.out, HR7.out⟩, by simp only [intOf]; omega⟩
        · obtain rfl : j = 8 := by omega
          rw [upto_8 Hok.out.ps] at HG
          have hxl : (bkCells x.h x.c x.ks x.ps).length = 66 := Bk.cells_length Hok.out
          have Hxl := Lib.hid hxl; clear hxl
          go_wp2_with (first
            | (refine ld_agg rfl rfl rfl HG.out Try.underlying55 rfl 66 Hi66.out (by rw [Hxl.out]; decide) ?_; rw [show ((bkCells x.h x.c x.ks x.ps).drop 0).take 66 = x.cells by rw [List.drop_zero]; exact List.take_of_length_le (Nat.le_of_eq Hxl.out)])
            | (refine bs_one rfl rfl rfl Try.underlying43 66 (Bk.cells_length Hok.out) Hi66.out (by kernel_rfl) (by decide) (by decide) ?_; intro w8 hn8
               have HR8 := Lib.hid (HR.out.new hn8); have HP8 : Hid (At w8 wr.heap.size x.cells 55) := Lib.hid hn8.to; clear hn8)
            | (refine ap_one rfl _ _ _ rfl (bytes := 304) Try.underlying43 Hi66.out (by kernel_rfl) (by kernel_rfl) (by decide) rfl HR8.out.own rfl HP8.out (Bk.cells_length Hok.out) Bk.one (by unfold maxLen; omega) (by omega) HR8.out.below.size ?_; intro v9 w9 ho9 hg9
               have HO9 : Hid (w9.ownsRow w.heap.size 55 66 v9 (k + 1) (bksCells (bs.take (k + 1)))) := Lib.hid (by rw [Hst.out]; exact ho9)
               have HB9 := Lib.hid (HR8.out.below.grown hg9 HR8.out.below.size (fun j e => own_base HR8.out.own j e)); clear ho9 hg9)
            | fail)
          exact ⟨⟨k + 1, by omega, by go_num, HO9.out, HB9.out⟩, by simp only [intOf]; omega⟩
    · obtain rfl : k = bs.length := by omega
      go_wp2_with fail
      go_ret
      exact ⟨⟨_, rfl, by have h := HO.out; rw [List.take_length] at h; exact h⟩, HB.out⟩
end Go.Proofs.Ytihlbfbplmehiaa
