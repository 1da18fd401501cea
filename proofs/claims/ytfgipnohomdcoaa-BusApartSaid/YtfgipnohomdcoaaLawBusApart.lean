/- The statement BusApart: what is stored somewhere changes no byte elsewhere. No condition. -/
import Derived.Test.YtfgipnohomdcoaaBusJ
import Derived.Test.YtfgipnohomdcoaaLift
import Derived.Test.YtfgipnohomdcoaaRamOpen
import Derived.Test.YtfgipnohomdcoaaApart
import Derived.Test.YtfgipnohomdcoaaBusMade
import Derived.IntWalk
import Derived.Deep.RegionHeld3
namespace Go.Proofs.Ytfgipnohomdcoaa
open Go.ChangeShapes Go.WideShapes Go.ChangeAt Go.RowKit
set_option maxHeartbeats 4000000

set_option maxRecDepth 100000 in
theorem busApart_walk (base t sz v kd : Int) (sv : Value) (ws : List Int) (w : World) (hb : 0 ≤ base ∧ base < 4294967296) (ht : 0 ≤ t ∧ t < 4294967296) (hv : 0 ≤ v ∧ v < 4294967296) (hl : ws.length ≤ 100) (hs : Sl w sv ws) :
    Calls Try.prog 7 #[.agg #[.int .u32 base, sv], .agg #[.int .u8 kd, .int .u32 t, .int .i64 sz, .int .u32 v]] w fun e w' => e = .returned (.bool true) ∧ Below w.heap.size w w' := by
  have Hi1 : Hid ((Try.prog.info? 22).map (·.size) = some 1) := by unfold Hid; kernel_rfl
  have HS := Lib.hid hs
  obtain ⟨a, cap, rfl⟩ := hs.shape
  have hr := hs.range
  have Hb := Lib.hid hb; have Ht := Lib.hid ht; have Hv := Lib.hid hv; have Hr := Lib.hid hr
  clear hs hb ht hv hr
  go_enter Try.func7, Try.ntmps7
  go_wp2_with (first
    | (refine bx_new rfl (ty := 25) rfl rfl ?_; intro w1 hn1; have HA1 : Hid (At w1 w.heap.size [.int .u32 base, .slice a ws.length cap] 25) := Lib.hid hn1.to; have HB1 := Lib.hid (hn1.below (Nat.le_refl _)); clear hn1)
    | (refine bx_new rfl (ty := 33) rfl rfl ?_; intro w2 hn2; have HA2 : Hid (At w2 w.heap.size [.int .u32 base, .slice a ws.length cap] 25) := Lib.hid (hn2.at HA1.out); have HC2 : Hid (At w2 w1.heap.size [.int .u8 kd, .int .u32 t, .int .i64 sz, .int .u32 v] 33) := Lib.hid hn2.to; have HB2 := Lib.hid (HB1.out.trans (hn2.below HB1.out.size)); have HG := Lib.hid HA1.out.lt; clear hn2)
    | fail)
  refine (alive16_any _).mono ?_
  rintro e w3 ⟨rfl, hb3⟩
  have HA3 := Lib.hid (HA2.out.of_below hb3); have HC3 := Lib.hid (HC2.out.of_below hb3); have HB3 := Lib.hid (HB2.out.trans (hb3.mono HB2.out.size)); have HS3 := Lib.hid (HS.out.below HB3.out)
  clear hb3 HA1 HA2 HC2 HB1 HB2
  have c0 : w3.cell? ⟨w.heap.size, 0, none⟩ = some (.int .u32 base) := HA3.out.cell 0
  have c1 : w3.cell? ⟨w.heap.size, 1, none⟩ = some (.slice a ws.length cap) := HA3.out.cell 1
  have hd1 : decide ((100 : Int) < (ws.length : Int)) = false := by rw [decide_eq_false_iff_not]; omega
  go_wp2_with fail
  have hn4 : ws.length ≤ 1000000 := by omega
  have keepS : ∀ w' : World, Below w3.heap.size w3 w' → (∀ i : Nat, w'.cell? ⟨w.heap.size, i, none⟩ = ([.int .u32 base, .slice a ws.length cap] : List Value)[i]?) ∧ Below w3.heap.size w3 w' := fun w' hb => ⟨(HA3.out.of_below hb).cell, hb⟩
  have KS := Lib.hid keepS
  have hS0 := keepS w3 (Below.refl _ _)
  clear keepS c0 c1 hd1
  go_region_held3 (fun w' => (∀ i : Nat, w'.cell? ⟨w.heap.size, i, none⟩ = ([.int .u32 base, .slice a ws.length cap] : List Value)[i]?) ∧ Below w3.heap.size w3 w')
    (first
      | exact KS.out _ ((Below.refl _ _).drew)
      | (go_split_ands; exact KS.out _ (Below.trans (by assumption) (hb5.mono (Below.size (by assumption)))))
      | (go_split_ands; exact KS.out _ (below_drewN (by assumption) _))
      | (go_split_ands; exact KS.out _ (Below.alloc (by assumption) (Below.size (by assumption)) _))
      | go_keep)
    (first
      | (go_split_ands; refine wp_ap_sl _ _ _ rfl (bytes := 4) Try.underlying23 Hi1.out (by kernel_rfl) (by kernel_rfl) (by decide) rfl rfl (HS3.out.below (by assumption)) hn4 ?_; intro v5 w5 ho5 hb5; obtain ⟨a5, cap5, rfl⟩ := own_slice ho5))
  go_split_ands
  have hn6 : New w5 (w5.alloc (.cells #[.int .u32 base, .slice a5 ws.length cap5] 29)) (.cells [.int .u32 base, .slice a5 ws.length cap5].toArray 29) := New.alloc _ _
  have hb5' : Below w3.heap.size w3 w5 := (Below.refl _ w3).drew.trans hb5
  obtain ⟨w6, hw6⟩ : ∃ w6, w5.alloc (.cells #[.int .u32 base, .slice a5 ws.length cap5] 29) = w6 := ⟨_, rfl⟩
  rw [hw6] at hn6 ⊢
  have HN6 := Lib.hid hn6; have HO5 := Lib.hid ho5
  have HB5 := Lib.hid hb5'; have HB6 := Lib.hid (hb5'.trans (hn6.below hb5'.size))
  have HA6 := Lib.hid (HA3.out.of_below HB6.out); have HC6 := Lib.hid (HC3.out.of_below HB6.out)
  have Hw6 := Lib.hid hw6
  clear hn6 hb5' hw6 ho5 KS
  go_wp2_with (first
    | (go_at_call 9; refine (busNew_any _).mono ?_; rintro e w7 ⟨rfl, hn7⟩
       have HA7 := Lib.hid (hn7.at HA6.out); have HC7 := Lib.hid (hn7.at HC6.out); have HB7 := Lib.hid (HB6.out.trans (hn7.below HB6.out.size))
       have d1 : w7.cell? ⟨w1.heap.size, 1, none⟩ = some (.int .u32 t) := HC7.out.cell 1
       have d2 : w7.cell? ⟨w1.heap.size, 2, none⟩ = some (.int .i64 sz) := HC7.out.cell 2
       have d3 : w7.cell? ⟨w1.heap.size, 3, none⟩ = some (.int .u32 v) := HC7.out.cell 3
       have HN7 := Lib.hid hn7; clear hn7)
    | fail)
  obtain ⟨gw, hbw, hgw⟩ := bw_made HO5.out HN6.out HN7.out Hb.out Hr.out (by omega) HB5.out.size
  have hgw : w3.heap.size ≤ gw := hgw
  refine (busStore_any Ht.out Hv.out w7 hbw).mono ?_
  rintro e w8 ⟨rfl, hw8, hs8⟩
  have l1 := HA3.out.lt; have l2 := HC3.out.lt
  have HA8 := Lib.hid (hs8.at HA7.out (by omega)); have HC8 := Lib.hid (hs8.at HC7.out (by omega))
  have HB8 := Lib.hid (((HB3.out.trans (HB7.out.mono HB3.out.size)).trans (hs8.below (Nat.le_trans HB3.out.size hgw))))
  have HS8 := Lib.hid (HS.out.below HB8.out)
  have HW8 := Lib.hid hw8
  clear hbw hgw hw8 hs8 l1 l2 d1 d2 d3 HA7 HC7 HB7 HA6 HC6 HB6 HA3 HC3 HB5
  have c0 : w8.cell? ⟨w.heap.size, 0, none⟩ = some (.int .u32 base) := HA8.out.cell 0
  have c1 : w8.cell? ⟨w.heap.size, 1, none⟩ = some (.slice a ws.length cap) := HA8.out.cell 1
  have d1 : w8.cell? ⟨w1.heap.size, 1, none⟩ = some (.int .u32 t) := HC8.out.cell 1
  have d2 : w8.cell? ⟨w1.heap.size, 2, none⟩ = some (.int .i64 sz) := HC8.out.cell 2
  have d3 : w8.cell? ⟨w1.heap.size, 3, none⟩ = some (.int .u32 v) := HC8.out.cell 3
  have hm4 : IntKind.i64.wrap (4 * (ws.length : Int)) = 4 * (ws.length : Int) := IntWalk.i64_in _ (by omega)
  go_wp2_with fail
  go_loop [42] (fun i => ∃ k : Nat, k ≤ 4 * ws.length ∧ i = .int .i64 k) (fun i => 4 * ws.length - (intOf i).toNat)
  case atStart => exact ⟨0, by omega, rfl⟩
  case round =>
    obtain ⟨k, hk, rfl⟩ := hrel
    by_cases hlt : k < 4 * ws.length
    · obtain ⟨b, off, cap', he, _, hce⟩ := HS8.out.elem (i := k / 4) (by omega)
      simp only [Value.slice.injEq] at he
      obtain ⟨rfl, -, rfl⟩ := he
      have e0 := hce w8 (Below.refl _ _)
      obtain ⟨a8, cap8, hA8, hor⟩ := HW8.out.ram.ex
      rw [stW_len] at hA8 hor
      have hkey := apart_byte (sz := sz) (i := k) Hr.out Hb.out Ht.out Hv.out hlt (by omega)
      obtain ⟨c, rfl, hAc, hct, hcl⟩ : ∃ c, a8 = some ⟨gw, 0, none⟩ ∧ At w8 gw c 22 ∧ c.take ws.length = (stW base ws t sz v).map uv ∧ ws.length ≤ c.length := by
        rcases hor with h | h
        · have h0 : ws.length = 0 := by rw [← stW_len base ws t sz v, h]; rfl
          omega
        · exact h
      have f1 : w8.cell? ⟨w5.heap.size, 1, none⟩ = some (.slice (some ⟨gw, 0, none⟩) ws.length cap8) := hA8.cell 1
      have f2 : w8.cell? ⟨gw, k / 4, none⟩ = some (.int .u32 ((stW base ws t sz v)[k / 4]?.getD 0)) := by
        rw [hAc.cell]
        have h1 : c[k / 4]? = (c.take ws.length)[k / 4]? := by rw [List.getElem?_take, if_pos (by omega)]
        have h2 : k / 4 < (stW base ws t sz v).length := by rw [stW_len]; omega
        rw [h1, hct, List.getElem?_map, List.getElem?_eq_getElem h2]
        rfl
      have hX : 0 ≤ ws[k / 4]?.getD 0 ∧ ws[k / 4]?.getD 0 < 4294967296 := by
        rw [List.getElem?_eq_getElem (by omega)]; exact Hr.out _ (List.getElem_mem _)
      have hY : 0 ≤ (stW base ws t sz v)[k / 4]?.getD 0 ∧ (stW base ws t sz v)[k / 4]?.getD 0 < 4294967296 := by
        have h2 : k / 4 < (stW base ws t sz v).length := by rw [stW_len]; omega
        rw [List.getElem?_eq_getElem h2]; exact HW8.out.ram.r _ (List.getElem_mem _)
      generalize (stW base ws t sz v)[k / 4]?.getD 0 = Y at *
      generalize ws[k / 4]?.getD 0 = X at *
      have hsz : stS base ws t sz = 0 → 1 ≤ sz ∧ sz ≤ 4 := fun h => by have := (chk_part Ht.out.1 (st_zero (v := v) h).1).1; omega
      generalize stS base ws t sz = E at *
      have zX : bits .and .u32 (X / 2 ^ (8 * (k % 4))) 255 = byteAt X (k % 4) := and255 hX _
      have zY : bits .and .u32 (Y / 2 ^ (8 * (k % 4))) 255 = byteAt Y (k % 4) := and255 hY _
      clear hX hY hor hct hcl hA8 hAc
      have hq1 : Int.tdiv (k : Int) 4 = ((k / 4 : Nat) : Int) := by rw [Int.tdiv_eq_ediv_of_nonneg (by omega)]; omega
      have hq2 : ((k / 4 : Nat) : Int) < (ws.length : Int) := by omega
      have hq3 : IntKind.i64.wrap ((k / 4 : Nat) : Int) = ((k / 4 : Nat) : Int) := IntWalk.i64_in _ (by omega)
      have hlt' : (k : Int) < 4 * (ws.length : Int) := by omega
      have hmm : (base + (k : Int) - t) % 4294967296 = ((base + (k : Int)) % 4294967296 - t) % 4294967296 := by omega
      have Ht1 := Ht.out
      by_cases hin : inB E base t sz k = true
      · rw [hin, if_pos rfl] at hkey
        unfold inB at hin
        simp only [Bool.and_eq_true, decide_eq_true_eq] at hin
        obtain ⟨hE, h1, h2⟩ := hin
        subst hE
        rw [← hmm] at h2
        have hs4 := hsz rfl
        obtain ⟨m, hm⟩ : ∃ m : Nat, ((base + (k : Int)) % 4294967296 - t).toNat = m := ⟨_, rfl⟩
        rw [hm] at hkey
        rw [hkey] at zY
        have hm3 : m ≤ 3 := by omega
        have hmz : (base + (k : Int) - t) % 4294967296 = (m : Int) := by omega
        have d1b : decide (t ≤ (base + (k : Int)) % 4294967296) = true := decide_eq_true h1
        have d2b : decide ((m : Int) < sz % 4294967296) = true := decide_eq_true (by omega)
        have zV : bits .and .u32 (v / 2 ^ (8 * m)) 255 = byteAt v m := and255 Hv.out _
        clear hkey hm hmm hsz hs4 h1 h2 Ht1
        go_wp2_with fail
        exact ⟨⟨k + 1, by omega, by go_num⟩, by simp only [intOf]; omega⟩
      · have hk2 : byteAt Y (k % 4) = byteAt X (k % 4) := by rw [if_neg hin] at hkey; exact hkey
        rw [hk2] at zY
        unfold inB at hin
        simp only [Bool.and_eq_true, decide_eq_true_eq] at hin
        rw [← hmm] at hin
        by_cases hE : E = 0
        · subst hE
          by_cases h1 : t ≤ (base + (k : Int)) % 4294967296
          · have h2 : ¬ (base + (k : Int) - t) % 4294967296 < sz % 4294967296 := fun h => hin ⟨rfl, h1, h⟩
            have d1b : decide (t ≤ (base + (k : Int)) % 4294967296) = true := decide_eq_true h1
            have d2b : decide ((base + (k : Int) - t) % 4294967296 < sz % 4294967296) = false := decide_eq_false h2
            clear hkey hk2 hin hmm hsz h1 h2 Ht1
            go_wp2_with fail
            exact ⟨⟨k + 1, by omega, by go_num⟩, by simp only [intOf]; omega⟩
          · have d1b : decide (t ≤ (base + (k : Int)) % 4294967296) = false := decide_eq_false h1
            clear hkey hk2 hin hmm hsz h1 Ht1
            go_wp2_with fail
            exact ⟨⟨k + 1, by omega, by go_num⟩, by simp only [intOf]; omega⟩
        · have hEb : (E == 0) = false := by rw [beq_eq_false_iff_ne]; exact hE
          clear hkey hk2 hin hmm hsz hE Ht1
          go_wp2_with fail
          exact ⟨⟨k + 1, by omega, by go_num⟩, by simp only [intOf]; omega⟩
    · have hk4 : (k : Int) = 4 * (ws.length : Int) := by omega
      have hd : decide ((k : Int) < 4 * (ws.length : Int)) = false := decide_eq_false (by omega)
      clear hk4
      go_wp2_with fail
      go_ret
      exact ⟨rfl, HB8.out⟩

set_option maxRecDepth 100000 in
theorem busApart_far (base : Int) (a : Option Addr) (n cap : Nat) (x : Value) (w : World) (h1 : 100 < n) :
    Calls Try.prog 7 #[.agg #[.int .u32 base, .slice a n cap], x] w fun e w' => e = .returned (.bool true) ∧ Below w.heap.size w w' := by
  have hd : decide ((100 : Int) < (n : Int)) = true := by rw [decide_eq_true_eq]; omega
  go_enter Try.func7, Try.ntmps7
  go_wp2_with (first
    | (refine bx_new rfl (ty := 25) rfl rfl ?_; intro w1 hn1; have HA1 : Hid (At w1 w.heap.size [.int .u32 base, .slice a n cap] 25) := Lib.hid hn1.to; have HB1 := Lib.hid (hn1.below (Nat.le_refl _)); clear hn1)
    | (refine bx_new rfl (ty := 33) rfl rfl ?_; intro w2 hn2; have HA2 : Hid (At w2 w.heap.size [.int .u32 base, .slice a n cap] 25) := Lib.hid (hn2.at HA1.out); have HB2 := Lib.hid (HB1.out.trans (hn2.below HB1.out.size)); clear hn2)
    | fail)
  refine (alive16_any _).mono ?_
  rintro e w3 ⟨rfl, hb3⟩
  have HB3 := Lib.hid (HB2.out.trans (hb3.mono HB2.out.size))
  have c1 : w3.cell? ⟨w.heap.size, 1, none⟩ = some (.slice a n cap) := (HA2.out.of_below hb3).cell 1
  clear hb3 HA1 HA2 HB1 HB2
  go_wp2_with fail
  go_ret
  exact ⟨rfl, HB3.out⟩

theorem fit_act {cs : List Value} (h : Fit [some .u8, some .u32, some .i64, some .u32] cs) : ∃ kd t sz v : Int, cs = [.int .u8 kd, .int .u32 t, .int .i64 sz, .int .u32 v] ∧ (0 ≤ kd ∧ kd < 256) ∧ (0 ≤ t ∧ t < 4294967296) ∧ (0 ≤ v ∧ v < 4294967296) := by
  match cs, h with
  | [.int k0 a, .int k1 b, .int k2 c, .int k3 d], h =>
    obtain ⟨⟨rfl, a1, a2⟩, ⟨rfl, b1, b2⟩, ⟨rfl, _, _⟩, ⟨rfl, d1, d2⟩, _⟩ := h
    simp [IntKind.min, IntKind.max, IntKind.signed, IntKind.bits] at a1 a2 b1 b2 d1 d2
    exact ⟨a, b, c, d, rfl, ⟨a1, by omega⟩, ⟨b1, by omega⟩, ⟨d1, by omega⟩⟩

namespace busApart
set_option maxRecDepth 100000 in
theorem owed : Owed Try.prog 7 Try.f7 := by
  intro H enc W base args ds p hval hA
  rw [Try.params7] at hval hA
  obtain ⟨hl, _⟩ := trodAll_len _ _ _ _ hA
  obtain ⟨v0, v1, rfl⟩ : ∃ v0 v1, args = #[v0, v1] := by
    obtain ⟨l⟩ := args
    match l, hl with
    | [v0, v1], _ => exact ⟨v0, v1, rfl⟩
  obtain ⟨_, _, _, _, h0, r0⟩ := trodAll_head (v := v0) (vs := [v1]) hA
  obtain ⟨_, _, _, _, h1, r1⟩ := trodAll_head (v := v1) (vs := []) r0
  clear r1
  have hv0 := hval 0 25 v0 rfl rfl
  have hv1 := hval 1 33 v1 rfl rfl
  clear hval hA
  obtain ⟨b, a, cap, l, rfl, hb, hcap, hs⟩ := open_ram Try.underlying25 (by kernel_rfl) (by kernel_rfl) Try.underlying22 Try.underlying23 Try.underlying22 (by kernel_rfl) (by kernel_rfl) rfl rfl rfl hv0 h0
  obtain ⟨cs, rfl, hc⟩ := open_flat (ks := [some .u8, some .u32, some .i64, some .u32]) Try.underlying33 rfl rfl (by kernel_rfl) (by kernel_rfl) hv1
  obtain ⟨kd, t, sz, v, rfl, _, ht, hv⟩ := fit_act hc
  by_cases hl : l.length ≤ 100
  · exact busApart_walk b t sz v kd _ l W hb ht hv hl (hs (by omega))
  · exact busApart_far b a l.length cap _ W (by omega)

theorem own : ownKnob Try.prog.godebug = none := by kernel_rfl
theorem laidOut : laidOutB Try.prog = true := by kernel_rfl

set_option maxRecDepth 100000 in
theorem lifted (os : Os) (started : os.Started) (H : Type) (enc : TypeId × Value → H) :
    ReturnsInHanded {} Try.checked os 7 .any (Rows.busApartSpec.pre6 enc Try.prog Try.f7 Rows.busApartRow.domain false) (Rows.busApartSpec.post enc Try.prog Try.f7 false true false false) := by
  refine law_handed (C := Try.checked) (tb := 4) own started (by kernel_rfl) Try.func7
    (ChangeSpec.witness6 (enc := enc) (C := Try.checked) false ⟨#[], #[.agg #[.int .u32 0, .slice none 0 0], .agg #[.int .u8 0, .int .u32 0, .int .i64 0, .int .u32 0]], []⟩ 8 (by kernel_rfl) (by kernel_rfl) (by kernel_rfl) (by kernel_rfl))
    rfl Try.underlying4 rfl ?_ laidOut (of_decide_eq_true (by kernel_rfl)) owed
  intro ds hl
  match ds, hl with
  | [a, b], _ => exact ⟨rfl, rfl, rfl⟩

theorem over : Rows.busApartRow.holds Try.pinned (OpenSpec.ofChange Rows.busApartSpec) :=
  OpenClaim.holds_of_wide 7 Try.f7 rfl rfl rfl rfl rfl rfl rfl ⟨rfl, rfl, rfl, rfl, rfl⟩ rfl rfl rfl rfl rfl (by kernel_rfl) Try.func7 (by kernel_rfl)
    (of_decide_eq_true (by kernel_rfl)) (by unfold Func.isWrapper; first | (rw [if_pos (by decide +kernel)]; kernel_rfl) | (rw [if_neg (by decide +kernel)]; exact ⟨rfl, rfl⟩))
    (fun os started H enc _ => lifted os started H enc)

theorem proved : Rows.BusApartSaid := over
end busApart
#print axioms busApart.proved
end Go.Proofs.Ytfgipnohomdcoaa
