/- The statement SectorActs: a device answers every register, in every order, as the document says, and its disk has behind that the document's sectors. No condition. -/
import Derived.Test.YthndnammnnallaaSecN
import Derived.Test.YthndnammnnallaaSymO
import Derived.Test.YthndnammnnallaaMake
namespace Go.Proofs.Ythndnammnnallaa
open Go.ChangeShapes Go.WideShapes Go.ChangeAt Go.RowKit
set_option maxHeartbeats 4000000

theorem alive10_run : Sy.Holds Try.prog 4 [] [] := Sy.holds_run (by kernel_rfl) 100000 (by kernel_rfl)
theorem alive10_any (w : World) : Calls Try.prog 4 #[] w fun e w' => e = .returned (.bool true) ∧ Below w.heap.size w w' := Sy.calls_holds (l := []) [] trivial alive10_run w

theorem cells_four (n : Nat) : madeCells #[uv 0, uv 0, uv 0, uv 0] (n * 4) = ((List.replicate (4 * n) (0 : Int)).map uv).toArray := by
  apply Array.ext
  · simp [madeCells]; omega
  · intro i h1 h2
    simp only [madeCells, Array.getElem_map, Array.getElem_range, List.getElem_toArray, List.getElem_map, List.getElem_replicate]
    have : i % 4 < 4 := Nat.mod_lt _ (by decide)
    match i % 4, this with
    | 0, _ => rfl
    | 1, _ => rfl
    | 2, _ => rfl
    | 3, _ => rfl
theorem mk_four {P : Program} {ops : Array Oper} {rest : List Oper} {op : Oper} {a : Act} {w : World} {Q : Exit → Act → World → Prop} (hw : Region.wanted op (yielded ops a.tmps) = true) {t e : TypeId} {x y : Operand} (ho : op.op = .makeSlice t x y) {n : Nat} {k k' : IntKind} (hx : a.eval x = .int k n) (hy : a.eval y = .int k' n)
    (ht : P.underlying t = some (.slice e)) (hz : (P.info? e).bind (·.zero) = some (.agg #[uv 0, uv 0, uv 0, uv 0])) (hi : (P.info? e).map (·.size) = some 4) (hb : ((P.info? e).map (·.bytes)).any (· ≤ 1000) = true) (hn : n ≤ 1000000)
    (h : ∀ w2, New w w2 (.cells ((List.replicate (4 * n) (0 : Int)).map uv).toArray e) → wpList P ops Q rest (a.put op.dst (.slice (some ⟨w.heap.size, 0, none⟩) n n)) w2) : wpList P ops Q (op :: rest) a w := by
  cases hie : P.info? e with
  | none => rw [hie] at hi; cases hi
  | some ie =>
    simp only [hie, Option.map_some, Option.some.injEq, Option.bind_some, Option.any_some, decide_eq_true_eq] at hi hz hb
    have hm := run_make (P := P) w t e ie _ ht hie hz k k' (n : Int) (n : Int) (by omega) (by omega) (by
      have : (ie.bytes : Int) * (n : Int) ≤ 1000 * 1000000 := Int.mul_le_mul (by omega) (by omega) (by omega) (by omega)
      omega) (by omega)
    rw [hi, Int.toNat_natCast] at hm
    rw [show (Value.agg #[uv 0, uv 0, uv 0, uv 0]).cells = #[uv 0, uv 0, uv 0, uv 0] from rfl, cells_four] at hm
    exact op_run hw (by simp only [execOp, ho, hx, hy, Sem.run_bind, hm, Result.andThen_ok, Sem.run_pure]) (h _ (New.alloc w _))

set_option maxRecDepth 100000 in
theorem newDev_any {gm : Nat} (w : World) : Calls Try.prog 5 #[.iface 24 (.pointer (some ⟨gm, 0, none⟩))] w fun e w' => e = .returned (.pointer (some ⟨w.heap.size, 0, none⟩)) ∧ New w w' (.cells (dc gm 0 0 0 false (List.replicate 16 0) 0).toArray 47) := by
  go_enter Try.func5, Try.ntmps5
  go_wp2_with (first
    | (refine bd_run rfl rfl rfl (cells := (dc gm 0 0 0 false (List.replicate 16 0) 0).toArray) (by kernel_rfl) ?_)
    | (refine bx_new rfl (ty := 47) rfl rfl ?_; intro w2 hn2; have HN2 : Hid (New w w2 (.cells (dc gm 0 0 0 false (List.replicate 16 0) 0).toArray 47)) := Lib.hid hn2; clear hn2)
    | fail)
  go_ret
  exact ⟨rfl, HN2.out⟩

/-- a device at its beginning -/
def s00 (n : Nat) : Sx := ⟨0, 0, 0, false, List.replicate 16 0, 0, List.replicate (4 * n) 0⟩

set_option maxRecDepth 100000 in
theorem sectorActs_walk (nb : Int) (n : Nat) (hn : n < 10) (hnb : nb % 10 = n) (hnb0 : 0 ≤ nb ∧ nb < 256) (av : Value) (acts : List (List Value)) (w : World) (hl2 : acts.length ≤ 100) (he : Es 3 w av acts) (hf : ∀ x ∈ acts, Fit [some .u8, some .i64, some .u32] x) :
    Calls Try.prog 3 #[.int .u8 nb, av] w fun e w' => e = .returned (.bool true) ∧ Below w.heap.size w w' := by
  have Hi22 : Hid ((Try.prog.info? 34).map (·.size) = some 22) := by unfold Hid; kernel_rfl
  have Hi4 : Hid ((Try.prog.info? 44).map (·.size) = some 4) := by unfold Hid; kernel_rfl
  have HE := Lib.hid he; have HF := Lib.hid hf
  have hw1 : IntKind.i64.wrap nb = nb := IntWalk.i64_in _ (by omega)
  have hm1 : Int.tmod nb 10 = (n : Int) := by rw [Int.tmod_eq_emod_of_nonneg (by omega)]; exact hnb
  obtain ⟨a2, cap2, rfl⟩ := he.shape
  have hd2 : decide ((100 : Int) < (acts.length : Int)) = false := by rw [decide_eq_false_iff_not]; omega
  clear he hf
  go_enter Try.func3, Try.ntmps3
  go_wp2_with (first
    | (go_at_call 4; refine (alive10_any _).mono ?_; rintro e w1 ⟨rfl, hb1⟩; have HB1 := Lib.hid hb1; clear hb1)
    | (go_at_call 5; refine (newDev_any _).mono ?_; rintro e w4 ⟨rfl, hn4⟩; have HN4 := Lib.hid hn4; clear hn4)
    | (refine bd_run (ty := 28) rfl rfl rfl (cells := #[.slice (some ⟨w1.heap.size, 0, none⟩) n n, .int .i64 0, .int .i64 0]) (by kernel_rfl) ?_)
    | (refine bx_new rfl (ty := 28) rfl rfl ?_; intro w3 hn3; have HN3 : Hid (New w2 w3 (.cells #[.slice (some ⟨w1.heap.size, 0, none⟩) n n, .int .i64 0, .int .i64 0] 28)) := Lib.hid hn3; clear hn3; refine Held.out ?_)
    | (refine mk_four rfl rfl (n := n) (by first | rfl | (show Value.int _ _ = _; congr 1)) (by first | rfl | (show Value.int _ _ = _; congr 1)) Try.underlying25 (by kernel_rfl) Hi4.out (by kernel_rfl) (by omega) ?_; intro w2 hn2; have HN2 := Lib.hid hn2; clear hn2)
    | fail)
  refine ⟨?_⟩
  go_wp2_with (first
    | (go_at_call 5; refine (newDev_any _).mono ?_; rintro e w4 ⟨rfl, hn4⟩; have HN4 := Lib.hid hn4; clear hn4; refine Held.out ?_)
    | fail)
  refine ⟨?_⟩
  have hs2 := HN2.out.size; have hs3 := HN3.out.size; have hs4 := HN4.out.size
  have hb14 : Below w1.heap.size w1 w4 := ((HN2.out.below (Nat.le_refl _)).trans (HN3.out.below (by omega))).trans (HN4.out.below (by omega))
  have hds : Ds w4 w3.heap.size w2.heap.size w1.heap.size n (s00 n) :=
    ⟨HN4.out.to, ⟨0, (HN4.out.at HN3.out.to)⟩, HN4.out.at (HN3.out.at HN2.out.to), by simp [s00], by simp [s00], by simp [s00], hn, by simp [s00], by simp [s00]⟩
  have hbb : Below w.heap.size w w4 := HB1.out.trans (hb14.mono HB1.out.size)
  have hgg : w.heap.size ≤ w3.heap.size ∧ w.heap.size ≤ w2.heap.size ∧ w.heap.size ≤ w1.heap.size := by have := HB1.out.size; omega
  have hgb : w3.heap.size < w4.heap.size ∧ w2.heap.size < w4.heap.size ∧ w1.heap.size < w4.heap.size := by omega
  obtain ⟨gd, hgd⟩ : ∃ g, w3.heap.size = g := ⟨_, rfl⟩
  obtain ⟨gm, hgm⟩ : ∃ g, w2.heap.size = g := ⟨_, rfl⟩
  obtain ⟨gl, hgl⟩ : ∃ g, w1.heap.size = g := ⟨_, rfl⟩
  rw [hgd, hgm, hgl] at hds hgg hgb
  rw [hgd, hgm]
  have HD := Lib.hid hds; have HB := Lib.hid hbb; have HG := Lib.hid hgg; have HGB := Lib.hid hgb
  clear hs2 hs3 hs4 hb14 hds hbb hgg hgb hgd hgm hgl HN2 HN3 HN4
  go_wp2_with (first
    | (refine mk_four rfl rfl (n := n) (by first | rfl | (show Value.int _ _ = _; congr 1)) (by first | rfl | (show Value.int _ _ = _; congr 1)) Try.underlying25 (by kernel_rfl) Hi4.out (by kernel_rfl) (by omega) ?_; intro w5 hn5
       have HD5 := Lib.hid (HD.out.below (hn5.below (Nat.le_refl _)))
       have HB5 := Lib.hid (HB.out.trans (hn5.below HB.out.size))
       have HK5 : Hid (Dk w5 w4.heap.size (.slice (some ⟨w4.heap.size, 0, none⟩) n n) n (s00 n).D) := Lib.hid ⟨_, _, rfl, Nat.le_refl _, by omega, Nat.le_refl _, ⟨_, hn5.to⟩, fun j u hu => by
         rw [hn5.to.cell]; simpa [s00] using hu⟩
       clear hn5)
    | (refine bd_run (ty := 34) rfl rfl rfl (cells := (rcS (s00 n) (.slice (some ⟨w4.heap.size, 0, none⟩) n n)).toArray) (by kernel_rfl) ?_)
    | (go_at_call 6; refine (run_any (Bb := w4.heap.size) w w5 HD5.out HK5.out HB5.out HG.out HGB.out HE.out HF.out hl2).mono ?_; rintro e w6 ⟨⟨s', sv', rfl, hd6, hk6⟩, hb6⟩
       have HD6 := Lib.hid hd6; have HK6 := Lib.hid hk6; have HB6 := Lib.hid hb6
       clear hd6 hk6 hb6)
    | (refine al_new rfl rfl (zero_dev _) ?_; intro w7 hn7
       have HD7 := Lib.hid (HD6.out.below (hn7.below (Nat.le_refl _)))
       have HK7 := Lib.hid (HK6.out.below (hn7.below (Nat.le_refl _)))
       have HB7 := Lib.hid (HB6.out.trans (hn7.below HB6.out.size))
       have HZ7 : Hid (At w7 w6.heap.size r0 34) := Lib.hid hn7.to
       clear hn7)
    | (refine st_agg rfl rfl rfl rfl HZ7.out 22 Hi22.out (rcS_len HD6.out.fine) (Nat.le_refl 22) (rc_ones HK6.out.one.2) ?_; intro w8 hu8; rw [st_all r0_len] at hu8
       have HY8 : Hid (At w8 w6.heap.size (rcS s' sv') 34) := Lib.hid hu8.to
       have HD8 : Hid (Ds w8 gd gm gl n s') := Lib.hid (by
         obtain ⟨lf, hmm⟩ := HD7.out.mm
         exact HD7.out.same hu8.same (at_ne HD7.out.dev HZ7.out (by decide)) (at_ne hmm HZ7.out (by decide)) (at_ne HD7.out.dsk HZ7.out (by decide)))
       have HK8 : Hid (Dk w8 w4.heap.size sv' n s'.D) := Lib.hid (HK7.out.same HZ7.out (by decide) hu8.same)
       have HB8 : Hid (Below w.heap.size w w8) := Lib.hid (HB7.out.trans (hu8.below HB6.out.size))
       clear hu8)
    | fail)
  obtain ⟨b, cap, hsv, hcap, hcap2, hBb, ⟨cs, hcs⟩, hr⟩ := HK8.out
  have c21 : w8.cell? ⟨w6.heap.size, 21, none⟩ = some (.slice (some ⟨b, 0, none⟩) n cap) := by
    rw [HY8.out.cell, show (rcS s' sv')[21]? = some sv' from rc_disk HD8.out.bl, hsv]
  obtain ⟨lf, hmm⟩ := HD8.out.mm
  have c0 : w8.cell? ⟨gm, 0, none⟩ = some (.slice (some ⟨gl, 0, none⟩) n n) := hmm.cell 0
  have hA : w8.rangeAt gl 0 (s'.D.map uv) := fun j u hu => by
    rw [HD8.out.dsk.cell, Nat.zero_add]; exact hu
  have HS : Hid (∀ m, Calls Try.prog 7 #[.slice (some ⟨gl, 0, none⟩) n n, .slice (some ⟨b, 0, none⟩) n cap] (w8.drewN m) fun e w' => e = .returned (.bool true) ∧ ∃ q, w' = (w8.drewN m).drewN q) := Lib.hid fun m => same_any (w8.drewN m) (fun j u hu => hA j u hu) (fun j u hu => hr j u hu) HD8.out.dl hn hcap
  clear hsv hcap hcap2 hBb hcs hr hA hmm
  go_wp2_with fail
  refine wp_region_quiet_lit (by kernel_rfl) (by kernel_rfl) ?_
  iterate 8 (first | ((with_reducible refine wpQuiet_step (fun K' hK' => ?_)); go_simp; (with_reducible refine hK' _ ?_); clear hK' K') | ((with_reducible refine wpQuiet_skip ?_ ?_); focus rfl))
  (with_reducible refine wpQuiet_step (fun K' hK' => ?_))
  go_simp
  apply Exists.intro
  (with_reducible refine ⟨fun nw => ?_, hK' _ ?_⟩)
  · (go_at_call 7; exact Calls.quiet_of (HS.out nw))
  clear hK' K'
  iterate 2 (first | ((with_reducible refine wpQuiet_step (fun K' hK' => ?_)); go_simp; (with_reducible refine hK' _ ?_); clear hK' K') | ((with_reducible refine wpQuiet_skip ?_ ?_); focus rfl))
  refine wpQuiet_nil ?_
  rintro w' ⟨nq, rfl⟩
  go_wp2_with fail
  go_ret
  exact ⟨rfl, HB8.out.trans ⟨rfl, rfl, rfl, Nat.le_refl _, fun _ _ => rfl⟩⟩

set_option maxRecDepth 100000 in
theorem sectorActs_far (nb : Int) (a : Option Addr) (m cap : Nat) (w : World) (h1 : 100 < m) :
    Calls Try.prog 3 #[.int .u8 nb, .slice a m cap] w fun e w' => e = .returned (.bool true) ∧ Below w.heap.size w w' := by
  have hd : decide ((100 : Int) < (m : Int)) = true := by rw [decide_eq_true_eq]; omega
  clear h1
  go_enter Try.func3, Try.ntmps3
  go_wp2_with (first
    | (go_at_call 4; refine (alive10_any _).mono ?_; rintro e w1 ⟨rfl, hb1⟩; have HB1 := Lib.hid hb1; clear hb1)
    | fail)
  go_ret
  exact ⟨rfl, HB1.out⟩

namespace sectorActs
set_option maxRecDepth 100000 in
theorem owed : Owed Try.prog 3 Try.f3 := by
  intro H enc W base args ds p hval hA
  rw [Try.params3] at hval hA
  obtain ⟨hl, _⟩ := trodAll_len _ _ _ _ hA
  obtain ⟨v0, v1, rfl⟩ : ∃ v0 v1, args = #[v0, v1] := by
    obtain ⟨l⟩ := args
    match l, hl with
    | [v0, v1], _ => exact ⟨v0, v1, rfl⟩
  obtain ⟨_, _, _, _, h0, r0⟩ := trodAll_head (v := v0) (vs := [v1]) hA
  obtain ⟨_, _, _, _, h1, r1⟩ := trodAll_head (v := v1) (vs := []) r0
  clear r1
  have hv0 := hval 0 5 v0 rfl rfl
  have hv1 := hval 1 22 v1 rfl rfl
  clear hval hA
  obtain ⟨nb, rfl, hnb⟩ := open_u8 Try.underlying5 hv0
  obtain ⟨a2, cap2, acts, rfl, _, he, hf⟩ := open_flats (D := 3) (ks := [some .u8, some .i64, some .u32]) Try.underlying22 (by kernel_rfl) (by kernel_rfl) hv1 h1
  by_cases hl : acts.length ≤ 100
  · exact sectorActs_walk nb (nb % 10).toNat (by omega) (by omega) hnb _ acts W hl he hf
  · exact sectorActs_far nb a2 acts.length cap2 W (by omega)

theorem own : ownKnob Try.prog.godebug = none := by kernel_rfl
theorem laidOut : laidOutB Try.prog = true := by kernel_rfl

set_option maxRecDepth 100000 in
theorem lifted (os : Os) (started : os.Started) (H : Type) (enc : TypeId × Value → H) :
    ReturnsInHanded {} Try.checked os 3 .any (Rows.sectorActsSpec.pre6 enc Try.prog Try.f3 Rows.sectorActsRow.domain false) (Rows.sectorActsSpec.post enc Try.prog Try.f3 false true false false) := by
  refine law_handed (C := Try.checked) (tb := 4) own started (by kernel_rfl) Try.func3
    (ChangeSpec.witness6 (enc := enc) (C := Try.checked) false ⟨#[], #[.int .u8 0, .slice none 0 0], []⟩ 8 (by kernel_rfl) (by kernel_rfl) (by kernel_rfl) (by kernel_rfl))
    rfl Try.underlying4 rfl ?_ laidOut (of_decide_eq_true (by kernel_rfl)) owed
  intro ds hl
  match ds, hl with
  | [a, b], _ => exact ⟨rfl, rfl, rfl⟩

theorem over : Rows.sectorActsRow.holds Try.pinned (OpenSpec.ofChange Rows.sectorActsSpec) :=
  OpenClaim.holds_of_wide 3 Try.f3 rfl rfl rfl rfl rfl rfl rfl ⟨rfl, rfl, rfl, rfl, rfl⟩ rfl rfl rfl rfl rfl (by kernel_rfl) Try.func3 (by kernel_rfl)
    (of_decide_eq_true (by kernel_rfl)) (by unfold Func.isWrapper; first | (rw [if_pos (by decide +kernel)]; kernel_rfl) | (rw [if_neg (by decide +kernel)]; exact ⟨rfl, rfl⟩))
    (fun os started H enc _ => lifted os started H enc)

theorem proved : Rows.SectorActsSaid := over
end sectorActs
#print axioms sectorActs.proved
end Go.Proofs.Ythndnammnnallaa
