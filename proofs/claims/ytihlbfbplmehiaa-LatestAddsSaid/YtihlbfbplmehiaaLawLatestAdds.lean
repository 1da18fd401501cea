/- The statement LatestAdds: a page that is added is the latest of its sector, and all others are as they were. No condition. -/
import Derived.Test.YtihlbfbplmehiaaLatN
import Derived.Test.YtihlbfbplmehiaaEqs
namespace Go.Proofs.Ytihlbfbplmehiaa
open Go.ChangeShapes Go.WideShapes Go.ChangeAt Go.RowKit Go.Shelf
set_option maxHeartbeats 8000000

theorem fitB07 : flatAt Try.prog 6 48 = some bkKinds := by kernel_rfl
theorem built_add : Try.prog.built 55 [(0, .int .i64 1)] = some (bkCells 1 0 (List.replicate 8 0) (List.replicate 8 Pg.zero)).toArray := by kernel_rfl
theorem built_pg (s q : Int) : Try.prog.built 27 [(0, .int .u32 s), (1, .int .u32 q)] = some (Pg.cells ⟨s, q, false, 0, 0, 0, 0⟩).toArray := by kernel_rfl
theorem pl_neq_z (x : Pz) (h : x.ok) (w : World) : (binOp .neq 29 (.agg x.cells.toArray) (.agg x.cells.toArray)).run Try.prog w = .ok (.bool false) w :=
  flat_binop_neq (m := 6) (D := 6) (by omega) (by kernel_rfl) (ks := plKinds) (by kernel_rfl) (by kernel_rfl) (Pz.fit h) (Pz.fit h) true (by simp) w
theorem plz_ok {bs : List Bk} (hlen : bs.length ≤ 1000) (hok : ∀ b ∈ bs, b.ok) {x : Pl} (hx : x ∈ plsOf bs) : x.z.ok := by
  obtain ⟨b, hb, hk, _, _⟩ := mem_pls.1 hx
  have := (List.getElem?_eq_some_iff.1 hb).1
  exact ⟨by simp only [Pl.z]; omega, by simp only [Pl.z]; omega, pls_ok hok x hx⟩

theorem addB_len (pg : Pg) : (addB pg).cells.length = 66 := by rfl
theorem addB_all (pg : Pg) : ((addB pg).cells.drop 0).take 66 = (addB pg).cells := by rw [List.drop_zero]; exact List.take_of_length_le (Nat.le_of_eq (addB_len pg))
theorem add0_len : (bkCells 1 0 (List.replicate 8 0) (List.replicate 8 Pg.zero)).length = 66 := by rfl
theorem add1_len : (bkCells 1 0 [1, 0, 0, 0, 0, 0, 0, 0] (List.replicate 8 Pg.zero)).length = 66 := by rfl
theorem add_one : (bkCells 1 0 (List.replicate 8 0) (List.replicate 8 Pg.zero)).set 2 (.int .i64 1) = bkCells 1 0 [1, 0, 0, 0, 0, 0, 0, 0] (List.replicate 8 Pg.zero) := by rfl
theorem add_two (pg : Pg) : (bkCells 1 0 [1, 0, 0, 0, 0, 0, 0, 0] (List.replicate 8 Pg.zero)).take 10 ++ pg.cells ++ (bkCells 1 0 [1, 0, 0, 0, 0, 0, 0, 0] (List.replicate 8 Pg.zero)).drop (10 + 7) = (addB pg).cells := by rfl
theorem bk0_len : bk0.length = 66 := by rfl
theorem es_big {s : Nat} {w : World} {v : Value} {l : List (List Value)} (h : Es s w v l) : l.length ≤ 9223372036854775807 := by
  rcases h with ⟨_, rfl⟩ | ⟨_, _, _, _, h2, h3, _⟩
  · simp
  · omega
theorem pg_one (pg : Pg) : ∀ u ∈ pg.cells, u.oneCell' = true := by simp [Pg.cells, Value.oneCell']

set_option maxRecDepth 100000 in
theorem latestAdds_walk (v : Value) (bs : List Bk) (s : Int) (w : World) (hb : Bl w v bs) (hok : ∀ b ∈ bs, b.ok) (hs : 0 ≤ s ∧ s < 4294967296) (hlen : bs.length ≤ 12) :
    Calls Try.prog 7 #[v, .int .u32 s] w fun e w' => e = .returned (.bool true) ∧ Below w.heap.size w w' := by
  have Hi9 : Hid ((Try.prog.info? 29).map (·.size) = some 9) := by unfold Hid; kernel_rfl
  have Hi66 : Hid ((Try.prog.info? 55).map (·.size) = some 66) := by unfold Hid; kernel_rfl
  have Hi7 : Hid ((Try.prog.info? 27).map (·.size) = some 7) := by unfold Hid; kernel_rfl
  have Hi1 : Hid ((Try.prog.info? 3).map (·.size) = some 1) := by unfold Hid; kernel_rfl
  have Hok := Lib.hid hok
  obtain ⟨a, cp, rfl⟩ := hb.shape
  have Hb := Lib.hid hb
  have hd2 : decide ((12 : Int) < (bs.length : Int)) = false := by rw [decide_eq_false_iff_not]; omega
  clear hb hok
  obtain ⟨top, htop⟩ : ∃ q, topOf (plsOf bs) = q := ⟨_, rfl⟩
  have ht0 : 0 ≤ top := by rw [← htop]; exact top_0 _
  have Htop := Lib.hid htop; clear htop
  go_enter Try.func7, Try.ntmps7
  go_wp2_with (first
    | (go_at_call 8; refine (alive07_any _).mono ?_; rintro e w1 ⟨rfl, hb1⟩; have HB1 := Lib.hid hb1; have Hb1 := Lib.hid (Hb.out.below hb1); clear hb1)
    | (go_at_call 14; refine (Theirs_any _ bs _ Hb1.out (by omega)).mono ?_; rintro e w2 ⟨⟨v2, rfl, ho2⟩, hb2⟩
       have HO2 := Lib.hid ho2; have HB2 := Lib.hid (HB1.out.trans (hb2.mono HB1.out.size)); have hs2 := Lib.hid hb2.size; have HL2 := Lib.hid (Blt.of_own ho2 Hok.out)
       have hr2 := Lib.hid (own_lt ho2)
       clear ho2 hb2)
    | (go_at_call 13; refine (of_any _ bs (by omega) _ HL2.out).mono ?_; rintro e w3 ⟨⟨v3, t3, rfl, ht3, ho3⟩, hb3⟩
       have HT3 := Lib.hid ht3; obtain ⟨a3, c3, rfl⟩ := own_slice ho3
       have HE3 := Lib.hid ho3
       have HO3 := Lib.hid (own_below HO2.out hb3); have HL3 := Lib.hid (HL2.out.keep (keepB_below hb3)); have HB3 := Lib.hid (HB2.out.trans (hb3.mono HB2.out.size)); have hs3 := Lib.hid (Nat.le_trans hs2.out hb3.size)
       clear ho3 hb3 ht3 HO2 HL2)
    | (go_at_call 15; refine (top_any _ bs (by omega) _ HL3.out).mono ?_; rintro e w4 ⟨rfl, hb4⟩; rw [Htop.out]
       have HO4 := Lib.hid (own_below HO3.out hb4); have HB4 := Lib.hid (HB3.out.trans (hb4.mono HB3.out.size)); have HE4 := Lib.hid (own_below HE3.out hb4); have hs4 := Lib.hid (Nat.le_trans hs3.out hb4.size)
       clear hb4 HL3 HO3 HE3; refine Hold.out ?_)
    | fail)
  refine ⟨?_⟩
  by_cases hq : 2147483648 ≤ top
  · have hq' : decide ((2147483648 : Int) ≤ top) = true := decide_eq_true hq
    go_wp2_with fail
    go_ret
    exact ⟨rfl, HB4.out⟩
  have hq' : decide ((2147483648 : Int) ≤ top) = false := decide_eq_false hq
  have hw : IntKind.u32.wrap (top + 1) = top + 1 := IntWalk.u32_in _ (by omega)
  have hpg : (⟨s, top + 1, false, 0, 0, 0, 0⟩ : Pg).ok := by simp [Pg.ok, u32]; omega
  obtain ⟨pg, hpe⟩ : ∃ pg : Pg, pg = ⟨s, top + 1, false, 0, 0, 0, 0⟩ := ⟨_, rfl⟩
  rw [← hpe] at hpg
  have hps : pg.s = s := by rw [hpe]
  have hpq : pg.q = top + 1 := by rw [hpe]
  have Hpg := Lib.hid hpg; have Hpe := Lib.hid hpe; have Hps := Lib.hid hps; have Hpq := Lib.hid hpq
  have Hok2 : Hid (∀ b ∈ bs ++ [addB pg], b.ok) := Lib.hid fun b hb => (List.mem_append.1 hb).elim (Hok.out b) (fun h => by rw [List.mem_singleton.1 h]; exact addB_ok hpg)
  have Hln : Hid ((bs ++ [addB pg]).length ≤ 1000) := Lib.hid (by rw [List.length_append, List.length_singleton]; omega)
  have h63 : bs.length + 1 ≤ maxLen := by unfold maxLen; omega
  have hby : (bs.length + 1) * 304 ≤ 140737488355328 := by omega
  have H63 := Lib.hid h63; have Hby := Lib.hid hby
  clear hpg hpe hps hpq hq h63 hby
  go_wp2_with (first
    | (refine bd_run rfl rfl rfl built_add ?_)
    | (refine al_new rfl rfl (zero_TheirsB _) ?_; intro w5 hn5
       have HG5 : Hid (At w5 w4.heap.size bk0 55) := Lib.hid hn5.to; have HN5 := Lib.hid (hn5.below (Nat.le_refl _)); clear hn5)
    | (refine st_agg rfl rfl rfl rfl HG5.out 66 Hi66.out add0_len (by rw [bk0_len]; exact Nat.le_refl _) bk_one ?_; intro w6 hu6; rw [List.take_zero, List.nil_append, show bk0.drop (0 + 66) = [] from rfl, List.append_nil] at hu6
       have HG6 : Hid (At w6 w4.heap.size (bkCells 1 0 (List.replicate 8 0) (List.replicate 8 Pg.zero)) 55) := Lib.hid hu6.to
       have HN6 := Lib.hid (HN5.out.trans (hu6.below (Nat.le_refl _))); clear hu6 HG5 HN5)
    | (refine bd_run rfl rfl rfl (built_pg _ _) ?_; rw [← Hpe.out])
    | (refine st_cell (v := .int .i64 1) rfl rfl rfl rfl rfl HG6.out Hi1.out (by rw [add0_len]; decide) rfl ?_; intro w7 hu7; rw [add_one] at hu7
       have HG7 : Hid (At w7 w4.heap.size (bkCells 1 0 [1, 0, 0, 0, 0, 0, 0, 0] (List.replicate 8 Pg.zero)) 55) := Lib.hid hu7.to
       have HN7 := Lib.hid (HN6.out.trans (hu7.below (Nat.le_refl _))); clear hu7 HG6 HN6)
    | (refine st_agg rfl rfl rfl rfl HG7.out 7 Hi7.out (pg_cells_length _) (by rw [add1_len]; decide) (pg_one _) ?_; intro w8 hu8; rw [add_two] at hu8
       have HG8 : Hid (At w8 w4.heap.size (addB pg).cells 55) := Lib.hid hu8.to
       have HN8 := Lib.hid (HN7.out.trans (hu8.below (Nat.le_refl _))); clear hu8 HG7 HN7
       have HO8 := Lib.hid (own_below HO4.out HN8.out); have HB8 := Lib.hid (HB4.out.trans (HN8.out.mono HB4.out.size)); have HE8 := Lib.hid (own_below HE4.out HN8.out); have hs8 := Lib.hid (Nat.le_trans hs4.out HN8.out.size)
       clear HO4 HE4)
    | (refine ld_agg rfl rfl rfl HG8.out Try.underlying55 rfl 66 Hi66.out (by rw [addB_len]; exact Nat.le_refl _) ?_; rw [addB_all]; refine Hold.out ?_)
    | fail)
  refine ⟨?_⟩
  go_wp2_with (first
    | (refine bs_one rfl rfl (cs := (addB pg).cells) rfl Try.underlying43 66 (addB_len _) Hi66.out (by kernel_rfl) (by decide) (by decide) ?_; intro w9 hn9
       have HP9 : Hid (At w9 w8.heap.size (addB pg).cells 55) := Lib.hid hn9.to
       have HN9 := Lib.hid (hn9.below (Nat.le_refl _))
       have HO9 := Lib.hid (own_below HO8.out HN9.out); have HB9 := Lib.hid (HB8.out.trans (HN9.out.mono HB8.out.size)); have HE9 := Lib.hid (own_below HE8.out HN9.out); have hs9 := Lib.hid (Nat.le_trans hs8.out HN9.out.size)
       clear hn9 HN9; refine Hold.out ?_)
    | fail)
  refine ⟨?_⟩
  refine ap_one rfl _ _ _ rfl (bytes := 304) Try.underlying43 Hi66.out (by kernel_rfl) (by kernel_rfl) (by decide) rfl HO9.out rfl HP9.out (addB_len _) Bk.one H63.out Hby.out hs9.out ?_
  intro v10 w10 ho10 hg10
  have hl10 : Blt w10 v10 (bs ++ [addB pg]) := by
    refine Blt.of_own (base := w1.heap.size) ?_ Hok2.out
    rw [bksCells_snoc, List.length_append, List.length_singleton]; exact ho10
  have HL10 := Lib.hid hl10
  have HE10 := Lib.hid (own_grown2 HE9.out hg10 (fun r e => hr2.out r e))
  have HB10 := Lib.hid (HB9.out.grown hg10 HB9.out.size (fun j e => Nat.le_trans HB1.out.size (own_base HO9.out j e)))
  clear hl10 ho10 hg10 HE9 HE8 HO9 HO8 HP9
  go_wp2_with (first
    | (go_at_call 13; refine (of_any _ _ Hln.out _ HL10.out).mono ?_; rintro e w11 ⟨⟨v11, t11, rfl, ht11, ho11⟩, hb11⟩
       have HT11 := Lib.hid ht11; obtain ⟨a11, c11, rfl⟩ := own_slice ho11
       have HE11 : Hid (Es 9 w11 (.slice a11 t11.length c11) ((t11.map Pl.z).map Pz.cells)) := Lib.hid (es_own (n := t11.length) (by rw [← plsCells_z]; exact ho11) (by rw [List.length_map]))
       have HF11 := Lib.hid (own_below HE10.out hb11); have HB11 := Lib.hid (HB10.out.trans (hb11.mono HB10.out.size))
       clear ho11 hb11 ht11 HE10 HL10)
    | (go_at_call 9; refine (find_any _ s _ _ HE11.out).mono ?_; rintro e w12 ⟨rfl, hb12⟩
       rw [show fz (t11.map Pl.z) s = (⟨bs.length, 0, pg⟩, true) by rw [← Hps.out]; exact adds_new HT11.out (by rw [Hpq.out, Htop.out])]
       have HE12 := Lib.hid (HE11.out.keep9 hb12); have HF12 := Lib.hid (own_below HF11.out hb12); have HB12 := Lib.hid (HB11.out.trans (hb12.mono HB11.out.size)); clear hb12 HE11 HF11; refine Hold.out ?_)
    | fail)
  refine ⟨?_⟩
  have HE3' := Lib.hid (plsCells_z t3)
  go_wp2_with (first
    | (refine al_new rfl rfl (zero_pz _) ?_; intro w13 hn13
       have HP13 : Hid (At w13 w12.heap.size Pz.zero.cells 29) := Lib.hid hn13.to; have HN13 := Lib.hid (hn13.below (Nat.le_refl _)); clear hn13)
    | (refine st_agg rfl rfl rfl rfl HP13.out 9 Hi9.out (pz_len _) (Nat.le_refl 9) (pz_one _) ?_; intro w14 hu14
       have HP14 : Hid (At w14 w12.heap.size (Pz.cells ⟨bs.length, 0, pg⟩) 29) := Lib.hid hu14.to
       have HN14 := Lib.hid (HN13.out.trans (hu14.below (Nat.le_refl _)))
       have d0 : w14.cell? ⟨w12.heap.size, 0, none⟩ = some (.int .i64 (bs.length : Int)) := HP14.out.cell 0
       have d3 : w14.cell? ⟨w12.heap.size, 3, none⟩ = some (.int .u32 (top + 1)) := by have h := HP14.out.cell 3; rw [h, ← Hpq.out]; rfl
       have HE14 := Lib.hid (HE12.out.keep9 HN14.out); have HB14 := Lib.hid (HB12.out.trans (HN14.out.mono HB12.out.size))
       have HF14 : Hid (Es 9 w14 (.slice a3 t3.length c3) ((t3.map Pl.z).map Pz.cells)) := Lib.hid (es_own (n := t3.length) (by rw [← plsCells_z]; exact own_below HF12.out HN14.out) (by rw [List.length_map]))
       clear hu14 HP13 HN13 HE12 HF12)
    | fail)
  clear d0 d3
  go_loopw [68] (fun i wr => ∃ k : Nat, k ≤ t3.length ∧ i = .int .i64 k ∧ Below w14.heap.size w14 wr) (fun i _ => t3.length - (intOf i).toNat)
  case atStart => exact ⟨0, by omega, rfl, Below.refl _ _⟩
  case round =>
    obtain ⟨k, hk, rfl, hB⟩ := hrel
    have HB := Lib.hid hB; clear hB
    have hbig : t3.length ≤ 9223372036854775807 := by have h := es_big HF14.out; rwa [List.length_map, List.length_map] at h
    by_cases hlt : k < t3.length
    · obtain ⟨x, hx⟩ : ∃ x, t3[k]? = some x := ⟨_, List.getElem?_eq_getElem hlt⟩
      have hxm : x ∈ t3 := List.mem_of_getElem? hx
      obtain ⟨b, off, cap, hv, hbw, hrg⟩ := HF14.out.elem (i := k) (x := x.z.cells) (by rw [List.getElem?_map, List.getElem?_map, hx]; rfl)
      rw [List.length_map, List.length_map] at hv
      simp only [Value.slice.injEq] at hv
      obtain ⟨rfl, _, rfl⟩ := hv
      have Hrg := Lib.hid (hrg wr HB.out); clear hrg hx
      have hxo : x.z.ok := plz_ok (by omega) Hok.out (HT3.out.sub x hxm)
      have Hneq := Lib.hid (fun w => pl_neq_z x.z hxo w)
      have HE := Lib.hid (HE14.out.keep9 HB.out)
      obtain ⟨zf, bf, hf⟩ : ∃ zf bf, fz (t11.map Pl.z) x.p.s = (zf, bf) := ⟨_, _, rfl⟩
      have Hf := Lib.hid hf
      by_cases hsx : x.p.s = s
      · have e1 : (x.p.s != s) = false := by simp [hsx]
        clear hf hxm hxo hsx
        go_wp2_with (first
          | (refine wpList_load_mid rfl _ _ rfl _ _ rfl _ _ Hrg.out Try.underlying29 rfl Hi9.out ?_; refine Hold.out ?_)
          | fail)
        refine ⟨?_⟩
        go_wp2_with (first
          | (refine al_new rfl rfl (zero_pz _) ?_; intro w15 hn15
             have HX15 : Hid (At w15 wr.heap.size Pz.zero.cells 29) := Lib.hid hn15.to; have HN15 := Lib.hid (hn15.below (Nat.le_refl _)); clear hn15)
          | (refine st_agg rfl rfl rfl rfl HX15.out 9 Hi9.out (pz_len _) (Nat.le_refl 9) (pz_one _) ?_; intro w16 hu16
             have HX16 : Hid (At w16 wr.heap.size x.z.cells 29) := Lib.hid hu16.to
             have HN16 := Lib.hid (HN15.out.trans (hu16.below (Nat.le_refl _)))
             have c2 : w16.cell? ⟨wr.heap.size, 2, none⟩ = some (.int .u32 x.p.s) := HX16.out.cell 2
             clear hu16 HX15 HN15)
          | (go_at_call 9; refine (find_any _ x.p.s _ _ (HE.out.keep9 HN16.out)).mono ?_; rintro e w17 ⟨rfl, hb17⟩; rw [Hf.out]
             have HX17 := Lib.hid (HX16.out.of_below hb17); have HN17 := Lib.hid (HN16.out.trans (hb17.mono HN16.out.size))
             clear hb17 c2 HX16 HN16; refine Hold.out ?_)
          | fail)
        refine ⟨?_⟩
        go_wp2_with (first
          | (refine al_new rfl rfl (zero_pz _) ?_; intro w18 hn18
             have HX18 := Lib.hid (hn18.at HX17.out)
             have HY18 : Hid (At w18 w17.heap.size Pz.zero.cells 29) := Lib.hid hn18.to; have HM18 := Lib.hid (hn18.below (Nat.le_refl _)); clear hn18)
          | (refine st_agg rfl rfl rfl rfl HY18.out 9 Hi9.out (pz_len _) (Nat.le_refl 9) (pz_one _) ?_; intro w19 hu19
             have HM19 := Lib.hid (HM18.out.trans (hu19.below (Nat.le_refl _)))
             have HX19 := Lib.hid (HX17.out.of_below HM19.out)
             have HY19 : Hid (At w19 w17.heap.size zf.cells 29) := Lib.hid hu19.to
             have HN19 := Lib.hid (HB.out.trans ((HN17.out.trans (HM19.out.mono HN17.out.size)).mono HB.out.size))
             have c2 : w19.cell? ⟨wr.heap.size, 2, none⟩ = some (.int .u32 x.p.s) := HX19.out.cell 2
             clear hu19 HM18 HY18)
          | fail)
        exact ⟨⟨k + 1, by omega, by go_num, HN19.out⟩, by simp only [intOf]; omega⟩
      · have e1 : (x.p.s != s) = true := by rw [bne_iff_ne]; exact hsx
        have h2 := adds_old HT3.out HT11.out hxm (by rw [Hps.out]; exact hsx)
        rw [hf] at h2
        obtain ⟨rfl, rfl⟩ := Prod.mk.inj h2
        clear hf hxm hxo hsx h2
        go_wp2_with (first
          | (refine wpList_load_mid rfl _ _ rfl _ _ rfl _ _ Hrg.out Try.underlying29 rfl Hi9.out ?_; refine Hold.out ?_)
          | fail)
        refine ⟨?_⟩
        go_wp2_with (first
          | (refine al_new rfl rfl (zero_pz _) ?_; intro w15 hn15
             have HX15 : Hid (At w15 wr.heap.size Pz.zero.cells 29) := Lib.hid hn15.to; have HN15 := Lib.hid (hn15.below (Nat.le_refl _)); clear hn15)
          | (refine st_agg rfl rfl rfl rfl HX15.out 9 Hi9.out (pz_len _) (Nat.le_refl 9) (pz_one _) ?_; intro w16 hu16
             have HX16 : Hid (At w16 wr.heap.size x.z.cells 29) := Lib.hid hu16.to
             have HN16 := Lib.hid (HN15.out.trans (hu16.below (Nat.le_refl _)))
             have c2 : w16.cell? ⟨wr.heap.size, 2, none⟩ = some (.int .u32 x.p.s) := HX16.out.cell 2
             clear hu16 HX15 HN15)
          | (go_at_call 9; refine (find_any _ x.p.s _ _ (HE.out.keep9 HN16.out)).mono ?_; rintro e w17 ⟨rfl, hb17⟩; rw [Hf.out]
             have HX17 := Lib.hid (HX16.out.of_below hb17); have HN17 := Lib.hid (HN16.out.trans (hb17.mono HN16.out.size))
             clear hb17 c2 HX16 HN16; refine Hold.out ?_)
          | fail)
        refine ⟨?_⟩
        go_wp2_with (first
          | (refine al_new rfl rfl (zero_pz _) ?_; intro w18 hn18
             have HX18 := Lib.hid (hn18.at HX17.out)
             have HY18 : Hid (At w18 w17.heap.size Pz.zero.cells 29) := Lib.hid hn18.to; have HM18 := Lib.hid (hn18.below (Nat.le_refl _)); clear hn18)
          | (refine st_agg rfl rfl rfl rfl HY18.out 9 Hi9.out (pz_len _) (Nat.le_refl 9) (pz_one _) ?_; intro w19 hu19
             have HM19 := Lib.hid (HM18.out.trans (hu19.below (Nat.le_refl _)))
             have HX19 := Lib.hid (HX17.out.of_below HM19.out)
             have HY19 : Hid (At w19 w17.heap.size x.z.cells 29) := Lib.hid hu19.to
             have HN19 := Lib.hid (HB.out.trans ((HN17.out.trans (HM19.out.mono HN17.out.size)).mono HB.out.size))
             have c2 : w19.cell? ⟨wr.heap.size, 2, none⟩ = some (.int .u32 x.p.s) := HX19.out.cell 2
             clear hu19 HM18 HY18)
          | (refine ld_o rfl rfl HY19.out Try.underlying29 rfl 9 Hi9.out (Nat.le_refl 9) rfl ?_; rw [show ((x.z.cells.drop 0).take 9) = x.z.cells from rfl])
          | (refine ld_o rfl rfl HX19.out Try.underlying29 rfl 9 Hi9.out (Nat.le_refl 9) rfl ?_; rw [show ((x.z.cells.drop 0).take 9) = x.z.cells from rfl])
          | (refine eqs_o rfl rfl rfl (by kernel_rfl) Hneq.out rfl ?_)
          | fail)
        exact ⟨⟨k + 1, by omega, by go_num, HN19.out⟩, by simp only [intOf]; omega⟩
    · obtain rfl : k = t3.length := by omega
      go_wp2_with fail
      go_ret
      exact ⟨rfl, HB14.out.trans (HB.out.mono HB14.out.size)⟩

set_option maxRecDepth 100000 in
theorem latestAdds_far (a : Option Addr) (n cap : Nat) (s : Int) (w : World) (h : 12 < n) :
    Calls Try.prog 7 #[.slice a n cap, .int .u32 s] w fun e w' => e = .returned (.bool true) ∧ Below w.heap.size w w' := by
  have hd : decide ((12 : Int) < (n : Int)) = true := by rw [decide_eq_true_eq]; omega
  clear h
  go_enter Try.func7, Try.ntmps7
  go_wp2_with (first
    | (go_at_call 8; refine (alive07_any _).mono ?_; rintro e w1 ⟨rfl, hb1⟩; have HB1 := Lib.hid hb1; clear hb1)
    | fail)
  go_ret
  exact ⟨rfl, HB1.out⟩

namespace latestAdds
set_option maxRecDepth 100000 in
theorem owed : Owed Try.prog 7 Try.f7 := by
  intro H enc W base args ds p hval hA
  rw [Try.params7] at hval hA
  obtain ⟨hl, _⟩ := trodAll_len _ _ _ _ hA
  obtain ⟨v0, v1, rfl⟩ : ∃ v0 v1, args = #[v0, v1] := by
    obtain ⟨l⟩ := args
    match l, hl with
    | [v0, v1], _ => exact ⟨v0, v1, rfl⟩
  obtain ⟨_, _, _, _, h0, r0⟩ := trodAll_head (v := v0) (vs := [v1]) hA
  obtain ⟨_, _, _, _, h1, r1⟩ := trodAll_head (v := v1) (vs := []) r0
  clear r1
  have hv0 := hval 0 41 v0 rfl rfl
  have hv1 := hval 1 23 v1 rfl rfl
  clear hval hA
  obtain ⟨s, rfl, hs⟩ := open_u32 Try.underlying23 hv1
  obtain ⟨a, cap, l, rfl, hlen, hes, hfit⟩ := open_flats (s := 66) Try.underlying41 fitB07 (by kernel_rfl) hv0 h0
  obtain ⟨bs, rfl, hok⟩ := fit_bks l hfit
  simp only [List.length_map] at hes hlen ⊢
  by_cases h12 : bs.length ≤ 12
  · exact latestAdds_walk _ bs s W (bl_of_es hes hok) hok hs h12
  · exact latestAdds_far a bs.length cap s W (by omega)

theorem own : ownKnob Try.prog.godebug = none := by kernel_rfl
theorem laidOut : laidOutB Try.prog = true := by kernel_rfl

set_option maxRecDepth 100000 in
theorem lifted (os : Os) (started : os.Started) (H : Type) (enc : TypeId × Value → H) :
    ReturnsInHanded {} Try.checked os 7 .any (Rows.latestAddsSpec.pre6 enc Try.prog Try.f7 Rows.latestAddsRow.domain false) (Rows.latestAddsSpec.post enc Try.prog Try.f7 false true false false) := by
  refine law_handed (C := Try.checked) (tb := 4) own started (by kernel_rfl) Try.func7
    (ChangeSpec.witness6 (enc := enc) (C := Try.checked) false ⟨#[], #[.slice none 0 0, .int .u32 0], []⟩ 8 (by kernel_rfl) (by kernel_rfl) (by kernel_rfl) (by kernel_rfl))
    rfl Try.underlying4 rfl ?_ laidOut (of_decide_eq_true (by kernel_rfl)) owed
  intro ds hl
  match ds, hl with
  | [a, b], _ => exact ⟨rfl, rfl, rfl⟩

theorem over : Rows.latestAddsRow.holds Try.pinned (OpenSpec.ofChange Rows.latestAddsSpec) :=
  OpenClaim.holds_of_wide 7 Try.f7 rfl rfl rfl rfl rfl rfl rfl ⟨rfl, rfl, rfl, rfl, rfl⟩ rfl rfl rfl rfl rfl (by kernel_rfl) Try.func7 (by kernel_rfl)
    (of_decide_eq_true (by kernel_rfl)) (by unfold Func.isWrapper; first | (rw [if_pos (by decide +kernel)]; kernel_rfl) | (rw [if_neg (by decide +kernel)]; exact ⟨rfl, rfl⟩))
    (fun os started H enc _ => lifted os started H enc)

theorem proved : Rows.LatestAddsSaid := over
end latestAdds
#print axioms latestAdds.proved
end Go.Proofs.Ytihlbfbplmehiaa
