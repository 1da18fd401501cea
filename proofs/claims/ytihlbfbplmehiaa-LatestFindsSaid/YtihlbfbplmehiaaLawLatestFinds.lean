/- The statement LatestFinds: Find finds among places what the document's Find finds. No condition. -/
import Derived.Test.YtihlbfbplmehiaaLatM
import Derived.Test.YtihlbfbplmehiaaEqs
import Derived.ChangeKeysEq
namespace Go.Proofs.Ytihlbfbplmehiaa
open Go.ChangeShapes Go.WideShapes Go.ChangeAt Go.RowKit Go.Shelf
set_option maxHeartbeats 8000000

theorem eqz_u32 (d : Nat) (a : Int) (w : World) : (Op.equalIn (d + 1) 23 (.int .u32 a) (.int .u32 a)).run Try.prog w = .ok true w := by
  rw [run_equalIn_int (P := Try.prog) w d _ _ _ a a Try.underlying23, beq_self_eq_true]
theorem eqz_arr (a b c d : Int) (w : World) : (Op.equalIn 9998 25 (.agg #[.int .u32 a, .int .u32 b, .int .u32 c, .int .u32 d]) (.agg #[.int .u32 a, .int .u32 b, .int .u32 c, .int .u32 d])).run Try.prog w = .ok true w := by
  obtain ⟨i, hi⟩ : ∃ i, Try.prog.info? 23 = some i := by
    have h : (Try.prog.info? 23).isSome = true := by kernel_rfl
    exact Option.isSome_iff_exists.1 h
  rw [run_equalIn_array (P := Try.prog) w 9997 _ _ Try.underlying25 hi, show Try.prog.cellsOf 23 = 1 from by kernel_rfl]
  have hp : Try.prog.plainKey 23 = true := by kernel_rfl
  have p0 := run_part_plain (P := Try.prog) w hp (xs := #[.int .u32 a, .int .u32 b, .int .u32 c, .int .u32 d]) (off := 0) rfl
  have p1 := run_part_plain (P := Try.prog) w hp (xs := #[.int .u32 a, .int .u32 b, .int .u32 c, .int .u32 d]) (off := 1) rfl
  have p2 := run_part_plain (P := Try.prog) w hp (xs := #[.int .u32 a, .int .u32 b, .int .u32 c, .int .u32 d]) (off := 2) rfl
  have p3 := run_part_plain (P := Try.prog) w hp (xs := #[.int .u32 a, .int .u32 b, .int .u32 c, .int .u32 d]) (off := 3) rfl
  simp [Op.eqItems, List.range, List.range.loop, p0, p1, p2, p3, eqz_u32 9996]

theorem own9_one {w : World} {base : Nat} {e : TypeId} {r : Value} {z : Pz} (h : w.ownsRow base e 9 r 1 (pzCells [z])) : ∃ g cap, r = .slice (some ⟨g, 0, none⟩) 1 cap ∧ ∀ i, i < 9 → w.cell? ⟨g, i, none⟩ = z.cells[i]? := by
  rcases h.2 with ⟨_, h0⟩ | ⟨g, cap, cur, rfl, hb, hg, hn, hm, _, ht⟩
  · cases h0
  · refine ⟨g, cap, rfl, fun i hi => ?_⟩
    rw [World.ownsRow.cellAt h i (by omega)]
    simp [pzCells]

set_option maxRecDepth 100000 in
theorem latestFinds_walk (v : Value) (zs : List Pz) (s : Int) (w : World) (he : Es 9 w v (zs.map Pz.cells)) (hok : ∀ z ∈ zs, z.ok) (hlen : zs.length ≤ 200) :
    Calls Try.prog 3 #[v, .int .u32 s] w fun e w' => e = .returned (.bool true) ∧ Below w.heap.size w w' := by
  have Hi9 : Hid ((Try.prog.info? 29).map (·.size) = some 9) := by unfold Hid; kernel_rfl
  have Hj9 : Hid ((Try.prog.info? 36).map (·.size) = some 9) := by unfold Hid; kernel_rfl
  have HE := Lib.hid he
  obtain ⟨a, cp, rfl⟩ := he.shape
  rw [List.length_map] at HE ⊢
  have hd2 : decide ((200 : Int) < (zs.length : Int)) = false := by rw [decide_eq_false_iff_not]; omega
  obtain ⟨z, b, hz⟩ : ∃ z b, fz zs s = (z, b) := ⟨_, _, rfl⟩
  have Hz := Lib.hid hz
  have hzo := fz_ok hok s
  rw [hz] at hzo
  have Hzo : Hid z.ok := Lib.hid hzo
  clear he hz hzo
  go_enter Try.func3, Try.ntmps3
  go_wp2_with (first
    | (go_at_call 8; refine (alive07_any _).mono ?_; rintro e w1 ⟨rfl, hb1⟩; have HB1 := Lib.hid hb1; have HE1 := Lib.hid (HE.out.keep9 hb1); clear hb1)
    | (go_at_call 10; refine (theirs_any _ zs _ HE1.out (by omega)).mono ?_; rintro e w2 ⟨⟨v2, rfl, ho2⟩, hb2⟩
       have HT2 := Lib.hid (es_own ho2 rfl); have HE2 := Lib.hid (HE1.out.keep9 hb2); have HB2 := Lib.hid (HB1.out.trans (hb2.mono HB1.out.size))
       clear ho2 hb2)
    | (go_at_call 9; refine (find_any zs s _ _ HT2.out).mono ?_; rintro e w3 ⟨rfl, hb3⟩; rw [Hz.out]
       have HE3 := Lib.hid (HE2.out.keep9 hb3); have HB3 := Lib.hid (HB2.out.trans (hb3.mono HB2.out.size)); clear hb3)
    | (refine al_new rfl rfl (zero_pz _) ?_; intro w4 hn4
       have HP4 : Hid (At w4 w3.heap.size Pz.zero.cells 29) := Lib.hid hn4.to
       have HN4 := Lib.hid (hn4.below (Nat.le_refl _)); clear hn4)
    | (refine st_agg rfl rfl rfl rfl HP4.out 9 Hi9.out (pz_len _) (Nat.le_refl 9) (pz_one _) ?_; intro w5 hu5
       have HP5 : Hid (At w5 w3.heap.size z.cells 29) := Lib.hid hu5.to
       have HN5 := Lib.hid (HN4.out.trans (hu5.below (Nat.le_refl _)))
       have HE5 := Lib.hid (HE3.out.keep9 HN5.out); have HB5 := Lib.hid (HB3.out.trans (HN5.out.mono HB3.out.size))
       clear hu5)
    | (go_at_call 11; refine (refFind_any zs s _ _ HE5.out (by omega)).mono ?_; rintro e w6 ⟨rfl, hb6⟩; rw [Hz.out]
       have HP6 := Lib.hid (HP5.out.of_below hb6); have HB6 := Lib.hid (HB5.out.trans (hb6.mono HB5.out.size)); clear hb6)
    | (refine al_new rfl rfl (zero_refP _) ?_; intro w7 hn7
       have HR7 : Hid (At w7 w6.heap.size Pz.zero.cells 36) := Lib.hid hn7.to
       have HP7 := Lib.hid (hn7.at HP6.out)
       have HN7 := Lib.hid (hn7.below (Nat.le_refl _)); clear hn7)
    | (refine st_agg rfl rfl rfl rfl HR7.out 9 Hj9.out (pz_len _) (Nat.le_refl 9) (pz_one _) ?_; intro w8 hu8
       have HR8 : Hid (At w8 w6.heap.size z.cells 36) := Lib.hid hu8.to
       have HN8 := Lib.hid (HN7.out.trans (hu8.below (Nat.le_refl _)))
       have HP8 := Lib.hid (HP6.out.of_below HN8.out)
       have HB8 := Lib.hid (HB6.out.trans (HN8.out.mono HB6.out.size))
       clear hu8)
    | fail)
  have hsz : w.heap.size ≤ w8.heap.size := HB8.out.size
  obtain ⟨zb, zk, ⟨ps, pq, pg, pa, pb, pc, pd⟩⟩ := z
  have key : ∀ x : Pz, x.cells = [.int .i64 x.b, .int .i64 x.k, .int .u32 x.p.s, .int .u32 x.p.q, .bool x.p.g, .int .u32 x.p.a, .int .u32 x.p.b, .int .u32 x.p.c, .int .u32 x.p.d] := fun _ => rfl
  have hp : ∀ i, w8.cell? ⟨w3.heap.size, i, none⟩ = ([.int .i64 zb, .int .i64 zk, .int .u32 ps, .int .u32 pq, .bool pg, .int .u32 pa, .int .u32 pb, .int .u32 pc, .int .u32 pd] : List Value)[i]? := fun i => HP8.out.cell i
  have hr : ∀ i, w8.cell? ⟨w6.heap.size, i, none⟩ = ([.int .i64 zb, .int .i64 zk, .int .u32 ps, .int .u32 pq, .bool pg, .int .u32 pa, .int .u32 pb, .int .u32 pc, .int .u32 pd] : List Value)[i]? := fun i => HR8.out.cell i
  have hl3 : w3.heap.size < w8.heap.size := HP8.out.lt
  have hl6 : w6.heap.size < w8.heap.size := HR8.out.lt
  have He := Lib.hid (fun w => by have h := pz_eql_ref _ _ Hzo.out Hzo.out w; rwa [decide_eq_true rfl] at h)
  clear HE HE1 HE2 HE3 HE5 HP4 HP5 HP6 HP7 HN4 HN5 HN7 HN8 HR7 HT2 HB1 HB2 HB3 HB5 HB6 hok hlen hd2 Hz
  generalize w3.heap.size = g3 at *
  generalize w6.heap.size = g6 at *
  have Ho : Hid (Calls Try.prog 12 #[.slice (some ⟨w8.heap.size, 0, none⟩) 1 1] (w8.alloc (.cells #[.int .i64 zb, .int .i64 zk, .int .u32 ps, .int .u32 pq, .bool pg, .int .u32 pa, .int .u32 pb, .int .u32 pc, .int .u32 pd] 29)).drew
      fun e w' => ∃ g cap, e = .returned (.slice (some ⟨g, 0, none⟩) 1 cap) ∧ (∀ i, i < 9 → w'.cell? ⟨g, i, none⟩ = ([.int .i64 zb, .int .i64 zk, .int .u32 ps, .int .u32 pq, .bool pg, .int .u32 pa, .int .u32 pb, .int .u32 pc, .int .u32 pd] : List Value)[i]?) ∧ (∀ i, w'.cell? ⟨g3, i, none⟩ = ([.int .i64 zb, .int .i64 zk, .int .u32 ps, .int .u32 pq, .bool pg, .int .u32 pa, .int .u32 pb, .int .u32 pc, .int .u32 pd] : List Value)[i]?) ∧ (∀ i, w'.cell? ⟨g6, i, none⟩ = ([.int .i64 zb, .int .i64 zk, .int .u32 ps, .int .u32 pq, .bool pg, .int .u32 pa, .int .u32 pb, .int .u32 pc, .int .u32 pd] : List Value)[i]?) ∧ Below w.heap.size w w') := by
    have hn := New.alloc w8 (.cells #[.int .i64 zb, .int .i64 zk, .int .u32 ps, .int .u32 pq, .bool pg, .int .u32 pa, .int .u32 pb, .int .u32 pc, .int .u32 pd] 29)
    have hA : At (w8.alloc (.cells #[.int .i64 zb, .int .i64 zk, .int .u32 ps, .int .u32 pq, .bool pg, .int .u32 pa, .int .u32 pb, .int .u32 pc, .int .u32 pd] 29)).drew w8.heap.size (Pz.cells ⟨zb, zk, ⟨ps, pq, pg, pa, pb, pc, pd⟩⟩) 29 := hn.to
    refine (ours_any _ [⟨zb, zk, ⟨ps, pq, pg, pa, pb, pc, pd⟩⟩] _ (es_one hA) (by simp)).mono ?_
    rintro e w' ⟨⟨r, rfl, ho⟩, hb⟩
    have hb8 : Below w8.heap.size w8 w' := ((hn.below (Nat.le_refl _)).drew).trans (hb.mono (by simp))
    obtain ⟨g, cap, rfl, hc⟩ := own9_one ho
    refine ⟨g, cap, rfl, fun i hi => hc i hi, ?_, ?_, HB8.out.trans (hb8.mono hsz)⟩
    · intro i; rw [hb8.cell (p := ⟨g3, i, none⟩) hl3]; exact hp i
    · intro i; rw [hb8.cell (p := ⟨g6, i, none⟩) hl6]; exact hr i
  have heqA : ∀ w, (Op.equalIn 9998 25 (.agg #[.int .u32 pa, .int .u32 pb, .int .u32 pc, .int .u32 pd]) (.agg #[.int .u32 pa, .int .u32 pb, .int .u32 pc, .int .u32 pd])).run Try.prog w = .ok true w := fun w => eqz_arr _ _ _ _ w
  clear HP8 HR8 HB8
  have hbb : (b == b) = true := by simp
  go_region_with (go_at_call 12; refine Ho.out.mono ?_; rintro e w9 ⟨g, cap, rfl, hc, hp', hr', hb9⟩)
  all_goals
    clear hc hp' hr' hp hr Ho heqA
    go_wp2_with fail
    go_ret
    refine ⟨?_, hb9⟩
    go_simp
    try simp

set_option maxRecDepth 100000 in
theorem latestFinds_far (a : Option Addr) (n cap : Nat) (s : Int) (w : World) (h : 200 < n) :
    Calls Try.prog 3 #[.slice a n cap, .int .u32 s] w fun e w' => e = .returned (.bool true) ∧ Below w.heap.size w w' := by
  have hd : decide ((200 : Int) < (n : Int)) = true := by rw [decide_eq_true_eq]; omega
  clear h
  go_enter Try.func3, Try.ntmps3
  go_wp2_with (first
    | (go_at_call 8; refine (alive07_any _).mono ?_; rintro e w1 ⟨rfl, hb1⟩; have HB1 := Lib.hid hb1; clear hb1)
    | fail)
  go_ret
  exact ⟨rfl, HB1.out⟩

namespace latestFinds
set_option maxRecDepth 100000 in
theorem owed : Owed Try.prog 3 Try.f3 := by
  intro H enc W base args ds p hval hA
  rw [Try.params3] at hval hA
  obtain ⟨hl, _⟩ := trodAll_len _ _ _ _ hA
  obtain ⟨v0, v1, rfl⟩ : ∃ v0 v1, args = #[v0, v1] := by
    obtain ⟨l⟩ := args
    match l, hl with
    | [v0, v1], _ => exact ⟨v0, v1, rfl⟩
  obtain ⟨_, _, _, _, h0, r0⟩ := trodAll_head (v := v0) (vs := [v1]) hA
  obtain ⟨_, _, _, _, h1, r1⟩ := trodAll_head (v := v1) (vs := []) r0
  clear r1
  have hv0 := hval 0 22 v0 rfl rfl
  have hv1 := hval 1 23 v1 rfl rfl
  clear hval hA
  obtain ⟨s, rfl, hs⟩ := open_u32 Try.underlying23 hv1
  obtain ⟨a, cap, l, rfl, _, he, hf⟩ := open_flats (D := 6) (s := 9) (ks := plKinds) Try.underlying22 (by kernel_rfl) (by kernel_rfl) hv0 h0
  obtain ⟨zs, rfl, hok⟩ := fit_pzs l hf
  by_cases hl : zs.length ≤ 200
  · exact latestFinds_walk _ zs s W he hok hl
  · exact latestFinds_far a _ cap s W (by rw [List.length_map]; omega)

theorem own : ownKnob Try.prog.godebug = none := by kernel_rfl
theorem laidOut : laidOutB Try.prog = true := by kernel_rfl

set_option maxRecDepth 100000 in
theorem lifted (os : Os) (started : os.Started) (H : Type) (enc : TypeId × Value → H) :
    ReturnsInHanded {} Try.checked os 3 .any (Rows.latestFindsSpec.pre6 enc Try.prog Try.f3 Rows.latestFindsRow.domain false) (Rows.latestFindsSpec.post enc Try.prog Try.f3 false true false false) := by
  refine law_handed (C := Try.checked) (tb := 4) own started (by kernel_rfl) Try.func3
    (ChangeSpec.witness6 (enc := enc) (C := Try.checked) false ⟨#[], #[.slice none 0 0, .int .u32 0], []⟩ 8 (by kernel_rfl) (by kernel_rfl) (by kernel_rfl) (by kernel_rfl))
    rfl Try.underlying4 rfl ?_ laidOut (of_decide_eq_true (by kernel_rfl)) owed
  intro ds hl
  match ds, hl with
  | [a, b], _ => exact ⟨rfl, rfl, rfl⟩

theorem over : Rows.latestFindsRow.holds Try.pinned (OpenSpec.ofChange Rows.latestFindsSpec) :=
  OpenClaim.holds_of_wide 3 Try.f3 rfl rfl rfl rfl rfl rfl rfl ⟨rfl, rfl, rfl, rfl, rfl⟩ rfl rfl rfl rfl rfl (by kernel_rfl) Try.func3 (by kernel_rfl)
    (of_decide_eq_true (by kernel_rfl)) (by unfold Func.isWrapper; first | (rw [if_pos (by decide +kernel)]; kernel_rfl) | (rw [if_neg (by decide +kernel)]; exact ⟨rfl, rfl⟩))
    (fun os started H enc _ => lifted os started H enc)

theorem proved : Rows.LatestFindsSaid := over
end latestFinds
#print axioms latestFinds.proved
end Go.Proofs.Ytihlbfbplmehiaa
