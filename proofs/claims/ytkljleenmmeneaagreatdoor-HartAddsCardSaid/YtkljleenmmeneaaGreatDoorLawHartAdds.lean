/- The statement HartAdds: of numbers a hart comes to what they come to: a row of additions adds up. No condition. -/
import Derived.Test.YtkljleenmmeneaaGreatDoorCards
import Derived.Test.YtkljleenmmeneaaGreatDoorTie
import Derived.Test.YtkljleenmmeneaaGreatDoorHartRowA
import Derived.Test.YtkljleenmmeneaaGreatDoorHartRowB
import Derived.Test.YtkljleenmmeneaaGreatDoorHartRowC
import Derived.Test.YtkljleenmmeneaaGreatDoorHartRowD
import Derived.Test.YtkljleenmmeneaaGreatDoorMemB
import Derived.Test.YtkljleenmmeneaaGreatDoorArgs
import Derived.IntWalk
namespace Go.Proofs.YtkljleenmmeneaaGreatDoor
open Go.RowKit Go.ChangeShapes Go.WideShapes Go.ChangeAt
set_option maxHeartbeats 4000000

namespace hartAdds
open hartA hartRow decRow

/-- a number's word, and what it adds -/
def nw (rd x : Int) : Int := wd (x % 4096) rd
/-- what the first ones come to -/
def tot : List Int → Int
  | [] => 0
  | x :: l => (tot l + sx (x % 4096)) % 4294967296
def totN (l : List Int) (k : Nat) : Int := tot (l.take k).reverse
theorem totN_zero (l : List Int) : totN l 0 = 0 := rfl
theorem totN_succ {l : List Int} {k : Nat} {x : Int} (h : l[k]? = some x) : totN l (k + 1) = (totN l k + sx (x % 4096)) % 4294967296 := by
  unfold totN
  rw [List.take_add_one, h]
  simp [tot]
theorem tot_range (l : List Int) : 0 ≤ tot l ∧ tot l < 4294967296 := by
  cases l with
  | nil => exact ⟨by decide, by decide⟩
  | cons x l => simp only [tot]; omega
theorem totN_range (l : List Int) (k : Nat) : 0 ≤ totN l k ∧ totN l k < 4294967296 := tot_range _

theorem and4095 {x : Int} (h : 0 ≤ x ∧ x < 65536) : bits .and .u32 x 4095 = x % 4096 := by
  obtain ⟨n, rfl⟩ := Int.eq_ofNat_of_zero_le h.1
  have h3 := u32_and_nat n 4095 (by omega) (by omega)
  rw [show (4095 : Nat) = 2 ^ 12 - 1 from rfl, Nat.and_two_pow_sub_one_eq_mod] at h3
  refine Eq.trans h3 ?_
  simp
structure Held (p : Prop) : Prop where
  out : p
theorem hold_app {P : Program} {ops : Array Oper} {rest : List Oper} {op : Oper} {a : Act} {w : World} {Q : Exit → Act → World → Prop} (s x : Operand) (t : TypeId) (ho : op.op = .call { callee := .builtin .append, args := #[s, x], argTypes := #[t, t] }) (h : Held (wpList P ops Q (op :: rest) a w)) : wpList P ops Q (op :: rest) a w := h.out
theorem own_slice {w : World} {B n : Nat} {e : TypeId} {v : Value} {xs : List Value} (h : w.ownsRow B e 1 v n xs) : ∃ a cap, v = .slice a n cap := by
  rcases h.2 with ⟨rfl, rfl⟩ | ⟨g, cap, cur, rfl, _⟩
  · exact ⟨none, 0, rfl⟩
  · exact ⟨_, _, rfl⟩
theorem at_ne {w : World} {g g' : Nat} {c c' : List Value} {t t' : TypeId} (h : At w g c t) (h' : At w g' c' t') (ht : t ≠ t') : g ≠ g' := by
  rintro rfl
  have := h.heap
  rw [h'.heap] at this
  cases this
  exact ht rfl
theorem own_at {w : World} {base n : Nat} {e : TypeId} {v : Value} {l : List Int} (h : w.ownsRow base e 1 v n (l.map uv)) (hn : 0 < n) : ∃ g cap c, v = .slice (some ⟨g, 0, none⟩) n cap ∧ At w g c e ∧ c.take n = l.map uv := by
  obtain ⟨hl, h⟩ := h
  rcases h with ⟨rfl, h0⟩ | ⟨g, cap, cur, rfl, hg, hh, h1, h2, h3, h4⟩
  · omega
  · exact ⟨g, cap, cur.toList, rfl, by unfold At; simpa using hh, by rw [Nat.mul_one] at h4; exact h4⟩
def z0 : List Value := [zC, zC, zC, zC, zC, zC, zC, zC, zC, zC, zC, zC, zC, zC, zC, zC, .int .u64 0, .int .i64 0, zC] ++ (List.replicate 32 zC ++ [zC, .bool false, .bool false])
theorem zero_hart (w : World) : (zeroValue 40).run Tryz.prog w = .ok (.agg z0.toArray) w := by
  have h : (Tryz.prog.info? 40).bind (·.zero) = some (.agg z0.toArray) := by kernel_rfl
  unfold zeroValue typeInfo
  cases hq : Tryz.prog.info? 40 with
  | none => rw [hq] at h; cases h
  | some i =>
    rw [hq] at h
    simp only [Option.bind_some] at h
    simp [hq, h]
theorem globs_below {w w' : World} (h : Sy.GlobsAre w 3 gl) (hb : Below w.heap.size w w') : Sy.GlobsAre w' 3 gl := by
  intro x hx
  obtain ⟨h1, t, h2⟩ := h x hx
  exact ⟨h1, t, by rw [hb.block x.1 (Array.getElem?_eq_some_iff.1 h2).1]; exact h2⟩
theorem alive19_any (w : World) (hG : Sy.GlobsAre w 3 gl) : Calls Tryz.prog 4 #[] w fun e w' => e = .returned (.bool true) ∧ Below w.heap.size w w' := by
  obtain ⟨_, x, hx, hc⟩ := alive (fun _ => 0)
  have e : Sy.den (fun _ => 0) [] aliveE.v = some (.bool true) := rfl
  have h2 : some x = some (Value.bool true) := hx.symm.trans e
  cases h2
  refine (hc [] Sy.denL_nil w (fun _ => hG)).mono ?_
  rintro e w' ⟨rfl, hf⟩
  exact ⟨rfl, hf.below⟩

set_option maxRecDepth 100000 in
theorem busNew_any {gr : Nat} (w : World) : Calls Tryz.prog 5 #[.pointer (some ⟨gr, 0, none⟩)] w fun e w' => e = .returned (.pointer (some ⟨w.heap.size, 0, none⟩)) ∧ New w w' (.cells [.pointer (some ⟨gr, 0, none⟩), .slice none 0 0].toArray 46) := by
  go_enter Tryz.func5, Tryz.ntmps5
  go_wp2_with (first
    | (refine bd_run rfl rfl rfl (cells := #[.pointer (some ⟨gr, 0, none⟩), .slice none 0 0]) (by kernel_rfl) ?_)
    | (refine bx_new rfl rfl rfl ?_; intro w2 hn2; have HN := Lib.hid hn2; clear hn2)
    | fail)
  go_ret
  exact ⟨rfl, HN.out⟩

abbrev newV : Sy.V := .agg ([zV, zV, zV, zV, zV, zV, zV, zV, zV, zV, zV, zV, zV, zV, zV, zV, .int .u64 (.s 0), .int .i64 (.s 3), .int .u32 (.s 4096)] ++ (List.replicate 32 zV ++ [zV, .bool (.s false), .bool (.s false)]))
theorem newE (ρ : Nat → Int) : Sy.EntryOk Tryz.prog 3 gl ρ ⟨6, false, [.int .u32 (.s 4096)], newV⟩ := Sy.he_run0 (by kernel_rfl) 100000 (vs := []) (pc := []) (Sy.gok0 ρ) rfl rfl (by kernel_rfl)
theorem xsC_zero : ∀ (k rd : Nat), xsC (.int .u32 0) rd k = List.replicate k (.int .u32 0)
  | 0, _ => rfl
  | k + 1, rd => by
    simp only [xsC, xsC_zero k, List.replicate_succ]
    cases Nat.beq rd 0 <;> rfl
theorem new_calls (rd : Nat) (w : World) : Calls Tryz.prog 6 #[.int .u32 4096] w fun e w' => e = .returned (.agg (hartC 0 0 4096 rd).toArray) ∧ Below w.heap.size w w' := by
  obtain ⟨_, x, hx, hc⟩ := newE (fun _ => 0)
  have e : Sy.den (fun _ => 0) [] newV = some (.agg (hartC 0 0 4096 rd).toArray) := by
    unfold hartC
    rw [xsC_zero]
    rfl
  have h2 : some x = some _ := hx.symm.trans e
  cases h2
  refine (hc [.int .u32 4096] rfl w (fun h => by cases h)).mono ?_
  rintro e w' ⟨rfl, hf⟩
  exact ⟨rfl, hf.below⟩
theorem xsC_get (s : Value) : ∀ (k rd : Nat), rd < k → (xsC s rd k)[rd]? = some s
  | k + 1, 0, _ => rfl
  | k + 1, rd + 1, h => by
    have := xsC_get s k rd (by omega)
    simpa [xsC] using this
theorem hartC_len (s cy pc : Int) (rd : Nat) : (hartC s cy pc rd).length = 54 := by
  have h : ∀ (c : Value) (k rd : Nat), (xsC c rd k).length = k := by
    intro c k
    induction k with
    | zero => intro _; rfl
    | succ k ih => intro rd; simp [xsC, ih]
  simp [hartC, h]
theorem hartC_x (s cy pc : Int) (rd : Nat) (h : rd < 32) : (hartC s cy pc rd)[19 + rd]? = some (.int .u32 s) := by
  have hl : ∀ (c : Value) (k rd : Nat), (xsC c rd k).length = k := by
    intro c k
    induction k with
    | zero => intro _; rfl
    | succ k ih => intro rd; simp [xsC, ih]
  unfold hartC
  rw [List.getElem?_append_right (by simp)]
  simp only [List.length_cons, List.length_nil, Nat.add_sub_cancel_left, Nat.reduceAdd]
  rw [List.getElem?_append_left (by rw [hl]; exact h), xsC_get _ _ _ h]
theorem hartC_one (s cy pc : Int) (rd : Nat) : ∀ v ∈ hartC s cy pc rd, v.oneCell' = true := by
  have h : ∀ (k rd : Nat), ∀ v ∈ xsC (.int .u32 s) rd k, v.oneCell' = true := by
    intro k
    induction k with
    | zero => intro _ v hv; cases hv
    | succ k ih =>
      intro rd v hv
      simp only [xsC] at hv
      rcases List.mem_cons.1 hv with rfl | hv
      · cases Nat.beq rd 0 <;> rfl
      · exact ih _ v hv
  intro v hv
  unfold hartC at hv
  rcases List.mem_append.1 hv with hv | hv
  · simp at hv
    rcases hv with rfl | rfl | rfl | rfl <;> rfl
  · rcases List.mem_append.1 hv with hv | hv
    · exact h _ _ v hv
    · simp at hv
      rcases hv with rfl | rfl <;> rfl

theorem runs : ∀ rd : Nat, 1 ≤ rd → rd ≤ 31 → Run rd
  | 1, _, _ => run1
  | 2, _, _ => run2
  | 3, _, _ => run3
  | 4, _, _ => run4
  | 5, _, _ => run5
  | 6, _, _ => run6
  | 7, _, _ => run7
  | 8, _, _ => run8
  | 9, _, _ => run9
  | 10, _, _ => run10
  | 11, _, _ => run11
  | 12, _, _ => run12
  | 13, _, _ => run13
  | 14, _, _ => run14
  | 15, _, _ => run15
  | 16, _, _ => run16
  | 17, _, _ => run17
  | 18, _, _ => run18
  | 19, _, _ => run19
  | 20, _, _ => run20
  | 21, _, _ => run21
  | 22, _, _ => run22
  | 23, _, _ => run23
  | 24, _, _ => run24
  | 25, _, _ => run25
  | 26, _, _ => run26
  | 27, _, _ => run27
  | 28, _, _ => run28
  | 29, _, _ => run29
  | 30, _, _ => run30
  | 31, _, _ => run31
  | 0, h, _ => absurd h (by decide)
  | n + 32, _, h => absurd h (by omega)
/-- so many steps are done -/
structure L2 (w wr : World) (gb gr gh rd : Nat) (a3 : Option Addr) (c3 : Nat) (l : List Int) (k : Nat) : Prop where
  hart : At wr gh (hartC (totN l k) k (4096 + 4 * k) rd) 40
  bus : At wr gb [.pointer (some ⟨gr, 0, none⟩), .slice none 0 0] 46
  ram : At wr gr [.int .u32 4096, .slice a3 l.length c3] 28
  row : l = [] ∨ ∃ (gw : Nat) (c : List Value), a3 = some ⟨gw, 0, none⟩ ∧ At wr gw c 24 ∧ ∀ (i : Nat) (x : Int), l[i]? = some x → c[i]? = some (Value.int .u32 (nw rd x))
  globs : Sy.GlobsAre wr 3 gl
  below : Below w.heap.size w wr
  hw : w.heap.size ≤ gh
theorem L2.next {w wr wb wu : World} {gb gr gh rd : Nat} {a3 : Option Addr} {c3 : Nat} {l : List Int} {k : Nat} (h : L2 w wr gb gr gh rd a3 c3 l k) (hb : Below wr.heap.size wr wb) (hu : Upd wb wu gh (.cells (hartC (totN l (k + 1)) ((k + 1 : Nat) : Int) (4096 + 4 * ((k + 1 : Nat) : Int)) rd).toArray 40)) : L2 w wu gb gr gh rd a3 c3 l (k + 1) := by
  have h1 := h.hart.of_below hb
  refine ⟨hu.to, hu.at (h.bus.of_below hb) (at_ne (h.bus.of_below hb) h1 (by decide)), hu.at (h.ram.of_below hb) (at_ne (h.ram.of_below hb) h1 (by decide)), ?_, ?_, ?_, h.hw⟩
  · rcases h.row with h2 | ⟨gw, c, h2, h3, h4⟩
    · exact .inl h2
    · exact .inr ⟨gw, c, h2, hu.at (h3.of_below hb) (at_ne (h3.of_below hb) h1 (by decide)), h4⟩
  · have hg := globs_below h.globs hb
    intro x hx
    obtain ⟨g1, t, g2⟩ := hg x hx
    refine ⟨g1, t, ?_⟩
    by_cases he : x.1 = gh
    · have h5 := h1.heap
      rw [← he, g2] at h5
      simp only [Option.some.injEq, Obj.cells.injEq, Array.mk.injEq] at h5
      have h6 := congrArg List.length h5.1
      simp only [gl, List.mem_cons, List.not_mem_nil, or_false] at hx
      rcases hx with rfl | rfl | rfl <;> simp [hartC_len] at h6
    · rw [hu.other x.1 he]; exact g2
  · exact (h.below.trans (hb.mono h.below.size)).trans (hu.below h.hw)

set_option maxRecDepth 100000 in
theorem hartAdds_walk (a : Option Addr) (cap : Nat) (l : List Int) (at_ : Int) (hat : 0 ≤ at_ ∧ at_ < 256) (hl : l.length ≤ 60) (hr : ∀ x ∈ l, 0 ≤ x ∧ x < 65536) (w : World) (hG : Sy.GlobsAre w 3 gl)
    (hrow : l = [] ∨ ∃ b off, a = some ⟨b, off, none⟩ ∧ b < w.heap.size ∧ ∀ i x, l[i]? = some x → w.cell? ⟨b, off + i, none⟩ = some (.int .u16 x)) :
    Calls Tryz.prog 3 #[.slice a l.length cap, .int .u8 at_] w fun e w' => e = .returned (.bool true) ∧ Below w.heap.size w w' := by
  have Hi1 : Hid ((Tryz.prog.info? 24).map (·.size) = some 1) := by unfold Hid; kernel_rfl
  have Hi54 : Hid ((Tryz.prog.info? 40).map (·.size) = some 54) := by unfold Hid; kernel_rfl
  have Hj1 : Hid ((Tryz.prog.info? 26).map (·.size) = some 1) := by unfold Hid; kernel_rfl
  have HG := Lib.hid hG; have HR := Lib.hid hr; have HW := Lib.hid hrow; have Hat := Lib.hid hat
  clear hG hr hrow hat
  have hd1 : decide ((60 : Int) < (l.length : Int)) = false := by rw [decide_eq_false_iff_not]; omega
  go_enter Tryz.func3, Tryz.ntmps3
  obtain ⟨rd, hrd⟩ : ∃ rd : Nat, 1 + at_ % 31 = (rd : Int) := ⟨(1 + at_ % 31).toNat, by omega⟩
  have hrd1 : 1 ≤ rd := by omega
  have hrd2 : rd ≤ 31 := by omega
  have Hat1 := Hat.out
  have hm31 : at_.tmod 31 = at_ % 31 := Int.tmod_eq_emod_of_nonneg (by omega)
  go_wp2_with (first
    | (go_at_call 4; refine (alive19_any _ HG.out).mono ?_; rintro e w1 ⟨rfl, hb1⟩; have HB1 := Lib.hid hb1; clear hb1)
    | (refine bd_run rfl rfl rfl (cells := #[.int .u32 4096, .slice none 0 0]) (by kernel_rfl) ?_)
    | (refine bx_new rfl (ty := 28) rfl rfl ?_; intro w2 hn2; have HA2 : Hid (At w2 w1.heap.size [.int .u32 4096, .slice none 0 0] 28) := Lib.hid hn2.to; have HB2 := Lib.hid (HB1.out.trans (hn2.below HB1.out.size)); have HL2 : Hid (w1.heap.size < w2.heap.size) := Lib.hid (by have := hn2.size; omega); clear hn2)
    | fail)
  obtain ⟨gr, hgr⟩ : ∃ g, w1.heap.size = g := ⟨_, rfl⟩
  obtain ⟨B, hB⟩ : ∃ g, w2.heap.size = g := ⟨_, rfl⟩
  have HGR : Hid (w.heap.size ≤ gr) := Lib.hid (by rw [← hgr]; exact HB1.out.size)
  rw [hgr] at HA2 HL2 ⊢
  rw [hB] at HL2
  have HBq := Lib.hid hB
  clear hgr hB hd1 Hat1 hm31
  go_loopw [7, 26] (fun v7 v26 wr => ∃ (k : Nat) (sv : Value), k ≤ l.length ∧ v7 = .int .u32 (totN l k) ∧ v26 = .int .i64 k ∧ At wr gr [.int .u32 4096, sv] 28 ∧ wr.ownsRow B 24 1 sv k (((l.take k).map (nw rd)).map uv) ∧ Below w.heap.size w wr ∧ B ≤ wr.heap.size) (fun _ i _ => l.length - (intOf i).toNat)
  case atStart => exact ⟨0, .slice none 0 0, by omega, rfl, rfl, HA2.out, World.ownsRow_nil _ _ _ _, HB2.out, Nat.le_of_eq HBq.out.symm⟩
  case round =>
    obtain ⟨k, sv, hk, rfl, rfl, hA, hO, hBl, hBs⟩ := hrel
    by_cases hlt : k < l.length
    · obtain ⟨x, hx⟩ : ∃ x, l[k]? = some x := ⟨_, List.getElem?_eq_getElem hlt⟩
      have hxr := HR.out x (List.mem_of_getElem? hx)
      obtain ⟨b, off, rfl, hbl, hcell⟩ : ∃ b off, a = some ⟨b, off, none⟩ ∧ b < w.heap.size ∧ ∀ i x, l[i]? = some x → w.cell? ⟨b, off + i, none⟩ = some (.int .u16 x) := by
        rcases HW.out with h | h
        · rw [h] at hlt; simp at hlt
        · exact h
      have c0 : wr.cell? ⟨b, off + k, none⟩ = some (.int .u16 x) := (hBl.cell (p := ⟨b, off + k, none⟩) hbl).trans (hcell k x hx)
      have c1 : wr.cell? ⟨gr, 1, none⟩ = some sv := hA.cell 1
      have hand := and4095 hxr
      have hti := totN_range l k
      have hts := totN_succ hx
      have htake : (l.take (k + 1)).map (nw rd) = (l.take k).map (nw rd) ++ [nw rd x] := by rw [List.take_add_one, hx]; simp
      obtain ⟨imm, himm⟩ : ∃ imm, x % 4096 = imm := ⟨_, rfl⟩
      have him : 0 ≤ imm ∧ imm < 4096 := by omega
      have hwd := wd_or him (show 0 ≤ (rd : Int) ∧ (rd : Int) < 32 by omega)
      have hnw : nw rd x = wd imm rd := by unfold nw; rw [himm]
      rw [himm] at hand hts
      rw [hnw] at htake
      have HA := Lib.hid hA; have HO := Lib.hid hO; have HBL := Lib.hid hBl; have HBS := Lib.hid hBs; have Hhx := Lib.hid hx; have Hhti := Lib.hid hti; have Hhts := Lib.hid hts; have Htk := Lib.hid htake; have Him := Lib.hid him
      have hlt' : (k : Int) < (l.length : Int) := by omega
      have hx32 : x % 4294967296 = x := by omega
      have him20 : imm * 1048576 % 4294967296 = imm * 1048576 := by omega
      have hk32 : k + 1 ≤ maxLen := by unfold maxLen; omega
      have hk33 : (k + 1) * 4 ≤ 140737488355328 := by omega
      clear hA hO hBl hBs hx hti hts htake him hxr hcell hnw himm
      go_wp2_with (first
        | (refine hold_app _ _ _ rfl ?_)
        | fail)
      refine ⟨?_⟩
      have hna : New wr (wr.alloc (.cells #[.int .u32 (wd imm rd)] 24)) (.cells [.int .u32 (wd imm rd)].toArray 24) := New.alloc _ _
      obtain ⟨wa, hwa⟩ : ∃ wa, wr.alloc (.cells #[.int .u32 (wd imm rd)] 24) = wa := ⟨_, rfl⟩
      rw [hwa] at hna ⊢
      clear hwa
      have hOa := own_below HO.out (hna.below (Nat.le_refl _))
      have hAa := hna.at HA.out
      have hsa := hna.size
      refine ap_one rfl _ _ _ rfl (bytes := 4) Tryz.underlying26 Hi1.out (by kernel_rfl) (by kernel_rfl) (by decide) rfl hOa rfl hna.to rfl (by intro u hu; simp at hu; subst hu; rfl) hk32 hk33 (by have := HBS.out; omega) ?_
      intro v3 w3 ho3 hg3
      have hg3 : wa.grownBy w3 sv.ownBlock := hg3
      obtain ⟨a3, c3, rfl⟩ := own_slice ho3
      have hA3 := at_grown hAa hg3 (own_ne hOa hAa (by decide))
      have hBa : Below w.heap.size w wa := HBL.out.trans (hna.below HBL.out.size)
      have hww := Nat.le_trans HB2.out.size (Nat.le_of_eq HBq.out)
      have hB3 : Below w.heap.size w w3 := hBa.grown hg3 hBa.size (fun j e => Nat.le_trans hww (own_base hOa j e))
      have hS3 : B ≤ w3.heap.size := Nat.le_trans (by have := HBS.out; omega) (Below.grown (Below.refl B wa) hg3 (by have := HBS.out; omega) (fun j e => own_base hOa j e)).size
      have HA3 := Lib.hid hA3; have HO3 := Lib.hid ho3; have HB3 := Lib.hid hB3; have HS3 := Lib.hid hS3
      clear ho3 hg3 hOa hAa hsa hna hA3 hBa hww hB3 hS3
      by_cases h2 : imm < 2048
      · have hdl : decide ((2048 : Int) ≤ imm) = false := by rw [decide_eq_false_iff_not]; omega
        go_wp2_with (first
          | (refine st_cell (v := .slice a3 (k + 1) c3) rfl rfl rfl rfl rfl HA3.out Hj1.out (Nat.le_refl 2) rfl ?_; intro w4 hu4; have HU4 := Lib.hid hu4; clear hu4)
          | fail)
        refine ⟨⟨k + 1, .slice a3 (k + 1) c3, by omega, ?_, by go_num, HU4.out.to, ?_, HB3.out.trans (HU4.out.below HGR.out), by rw [HU4.out.size]; exact HS3.out⟩, by simp only [intOf]; omega⟩
        · rw [Hhts.out]; unfold sx; rw [if_pos h2]
        · rw [Htk.out, List.map_append]
          exact own_upd HO3.out HU4.out (own_ne HO3.out HA3.out (by decide))
      · have hdl : decide ((2048 : Int) ≤ imm) = true := by rw [decide_eq_true_eq]; omega
        go_wp2_with (first
          | (refine st_cell (v := .slice a3 (k + 1) c3) rfl rfl rfl rfl rfl HA3.out Hj1.out (Nat.le_refl 2) rfl ?_; intro w4 hu4; have HU4 := Lib.hid hu4; clear hu4)
          | fail)
        refine ⟨⟨k + 1, .slice a3 (k + 1) c3, by omega, ?_, by go_num, HU4.out.to, ?_, HB3.out.trans (HU4.out.below HGR.out), by rw [HU4.out.size]; exact HS3.out⟩, by simp only [intOf]; omega⟩
        · rw [Hhts.out]; unfold sx; rw [if_neg h2]; congr 1; omega
        · rw [Htk.out, List.map_append]
          exact own_upd HO3.out HU4.out (own_ne HO3.out HA3.out (by decide))
    · obtain rfl : k = l.length := by omega
      obtain ⟨a3, c3, rfl⟩ := own_slice hO
      rw [List.take_length] at hO
      have hd : decide ((l.length : Int) < (l.length : Int)) = false := by rw [decide_eq_false_iff_not]; omega
      have HA := Lib.hid hA; have HO := Lib.hid hO; have HBL := Lib.hid hBl; have HBS := Lib.hid hBs
      clear hA hO hBl hBs hd hlt
      go_wp2_with (first
        | (go_at_call 5; refine (busNew_any _).mono ?_; rintro e w5 ⟨rfl, hn5⟩; have HN5 := Lib.hid hn5; clear hn5)
        | (go_at_call 6; refine (new_calls rd _).mono ?_; rintro e w6 ⟨rfl, hb6⟩; have HB6 := Lib.hid hb6; clear hb6)
        | (refine al_new rfl rfl (zero_hart _) ?_; intro w7 hn7; have HN7 : Hid (New w6 w7 (.cells z0.toArray 40)) := Lib.hid hn7; have HA7 : Hid (At w7 w6.heap.size z0 40) := Lib.hid hn7.to; clear hn7)
        | (refine st_agg rfl rfl rfl rfl HA7.out 54 Hi54.out (hartC_len 0 0 4096 rd) (Nat.le_refl 54) (hartC_one 0 0 4096 rd) ?_; intro w8 hu8; have HU8 := Lib.hid hu8; clear hu8)
        | fail)
      have hA8 : At w8 w6.heap.size (hartC 0 0 4096 rd) 40 := by
        have h := HU8.out.to
        rw [List.take_zero, List.nil_append, show z0.drop (0 + 54) = [] from rfl, List.append_nil] at h
        exact h
      have hB58 : Below w5.heap.size w5 w8 := (HB6.out.trans ((HN7.out.below (Nat.le_refl _)).mono HB6.out.size)).trans (HU8.out.below HB6.out.size)
      have hBr8 : Below wr.heap.size wr w8 := (HN5.out.below (Nat.le_refl _)).trans (hB58.mono (HN5.out.below (Nat.le_refl _)).size)
      have hBw8 : Below w.heap.size w w8 := HBL.out.trans (hBr8.mono HBL.out.size)
      have hw6 : w.heap.size ≤ w6.heap.size := Nat.le_trans HBL.out.size (Nat.le_trans (HN5.out.below (Nat.le_refl _)).size HB6.out.size)
      have hL : L2 w w8 wr.heap.size gr w6.heap.size rd a3 c3 l 0 := by
        refine ⟨hA8, HN5.out.to.of_below hB58, HA.out.of_below hBr8, ?_, globs_below HG.out hBw8, hBw8, hw6⟩
        by_cases h0 : l.length = 0
        · exact .inl (List.length_eq_zero_iff.1 h0)
        · obtain ⟨g, cap', c, he, hAt, hct⟩ := own_at (l := l.map (nw rd)) HO.out (by omega)
          simp only [Value.slice.injEq] at he
          obtain ⟨rfl, -, rfl⟩ := he
          refine .inr ⟨g, c, rfl, hAt.of_below hBr8, fun i x hx => ?_⟩
          have hi : i < l.length := (List.getElem?_eq_some_iff.1 hx).1
          have h1 : c[i]? = (c.take l.length)[i]? := by rw [List.getElem?_take, if_pos hi]
          rw [h1, hct, List.getElem?_map, List.getElem?_map, hx]
          rfl
      obtain ⟨gb, hgb⟩ : ∃ g, wr.heap.size = g := ⟨_, rfl⟩
      obtain ⟨gh, hgh⟩ : ∃ g, w6.heap.size = g := ⟨_, rfl⟩
      rw [hgb, hgh] at hL ⊢
      have HL := Lib.hid hL
      clear hA8 hB58 hBr8 hBw8 hw6 hL hgb hgh HU8 HN7 HA7 HB6 HN5 HA HO HBL HBS
      go_loopw [66] (fun v66 ws => ∃ k : Nat, k ≤ l.length ∧ v66 = .int .i64 k ∧ L2 w ws gb gr gh rd a3 c3 l k) (fun i _ => l.length - (intOf i).toNat)
      case atStart => exact ⟨0, by omega, rfl, HL.out⟩
      case round =>
        obtain ⟨k, hk, rfl, hL⟩ := hrel
        by_cases hlt : k < l.length
        · obtain ⟨x, hx⟩ : ∃ x, l[k]? = some x := ⟨_, List.getElem?_eq_getElem hlt⟩
          have hxr := HR.out x (List.mem_of_getElem? hx)
          obtain ⟨gw, c, rfl, hAw, hcw⟩ : ∃ (gw : Nat) (c : List Value), a3 = some ⟨gw, 0, none⟩ ∧ At wr gw c 24 ∧ ∀ (i : Nat) (x : Int), l[i]? = some x → c[i]? = some (Value.int .u32 (nw rd x)) := by
            rcases hL.row with h | h
            · rw [h] at hlt; simp at hlt
            · exact h
          have hrow : ∃ cur t fr, wr.heap[gw]? = some (.cells cur t fr) ∧ ∀ i, i < l.length → cur[i]? = some (.int .u32 (IntKind.u32.wrap (nw rd ((l[i]?).getD 0)))) := by
            refine ⟨_, _, _, hAw, fun i hi => ?_⟩
            have h1 := hcw i (l[i]) (List.getElem?_eq_getElem hi)
            have h2 := HR.out (l[i]) (List.getElem_mem hi)
            rw [List.getElem?_eq_getElem hi, Option.getD_some]
            have h3 := wd_range (imm := l[i] % 4096) (rd := rd) (by omega) (by omega)
            rw [IntKind.wrap_u32, Int.emod_eq_of_lt (show 0 ≤ nw rd l[i] from h3.1) (show nw rd l[i] < 4294967296 from h3.2)]
            simpa using h1
          have hst := step_calls hrd1 hrd2 (runs rd hrd1 hrd2) (ws := fun i => nw rd ((l[i]?).getD 0)) (totN_range l k) hlt hl (show 0 ≤ x % 4096 ∧ x % 4096 < 4096 by omega) (by simp only [hx, Option.getD_some]; rfl) hL.globs hL.bus hL.ram hrow
          have hts := totN_succ hx
          rw [← hts] at hst
          have HST := Lib.hid hst; have HL := Lib.hid hL
          have hlt' : (k : Int) < (l.length : Int) := by omega
          clear hst hL hts hrow hcw hxr hx
          go_wp2_with (first
            | (refine ld_agg rfl rfl rfl HL.out.hart Tryz.underlying40 rfl 54 Hi54.out (by rw [hartC_len]; decide) ?_; rw [show ((hartC (totN l k) k (4096 + 4 * k) rd).drop 0).take 54 = hartC (totN l k) k (4096 + 4 * k) rd by rw [List.drop_zero]; exact List.take_of_length_le (Nat.le_of_eq (hartC_len _ _ _ _))])
            | (go_at_call 7; refine HST.out.mono ?_; rintro e w9 ⟨rfl, hb9⟩; have HB9 := Lib.hid hb9; clear hb9)
            | (refine st_agg rfl rfl rfl rfl (HL.out.hart.of_below HB9.out) 54 Hi54.out (hartC_len _ _ _ _) (by rw [hartC_len]; decide) (hartC_one _ _ _ _) ?_; intro w10 hu10; have HU10 := Lib.hid hu10; clear hu10)
            | fail)
          have hu : Upd w9 w10 gh (.cells (hartC (totN l (k + 1)) ((k + 1 : Nat) : Int) (4096 + 4 * ((k + 1 : Nat) : Int)) rd).toArray 40) := by
            have h := HU10.out
            rw [List.take_zero, List.nil_append, List.drop_of_length_le (by rw [hartC_len]; decide), List.append_nil] at h
            exact h
          exact ⟨⟨k + 1, by omega, by go_num, HL.out.next HB9.out hu⟩, by simp only [intOf]; omega⟩
        · obtain rfl : k = l.length := by omega
          have e1 : wr.cell? ⟨gh, 19 + rd, none⟩ = some (.int .u32 (totN l l.length)) := (hL.hart.cell _).trans (hartC_x _ _ _ rd (by omega))
          have e2 : wr.cell? ⟨gh, 18, none⟩ = some (.int .u32 (4096 + 4 * (l.length : Int))) := hL.hart.cell 18
          have hrd3 : (rd : Int) < 32 := by omega
          have hw1 : IntKind.i64.wrap (4 * (l.length : Int)) = 4 * (l.length : Int) := IntWalk.i64_in _ (by omega)
          have hw2 : 4 * (l.length : Int) % 4294967296 = 4 * (l.length : Int) := by omega
          have hw3 : (4096 + 4 * (l.length : Int)) % 4294967296 = 4096 + 4 * (l.length : Int) := by omega
          have HB := Lib.hid hL.below
          clear hL hlt
          go_wp2_with fail
          go_ret
          exact ⟨rfl, HB.out⟩

set_option maxRecDepth 100000 in
theorem hartAdds_far (a : Option Addr) (n cap : Nat) (x : Value) (w : World) (hG : Sy.GlobsAre w 3 gl) (h1 : 60 < n) :
    Calls Tryz.prog 3 #[.slice a n cap, x] w fun e w' => e = .returned (.bool true) ∧ Below w.heap.size w w' := by
  have hd : decide ((60 : Int) < (n : Int)) = true := by rw [decide_eq_true_eq]; omega
  have HG := Lib.hid hG
  clear hG
  go_enter Tryz.func3, Tryz.ntmps3
  go_wp2_with (first
    | (go_at_call 4; refine (alive19_any _ HG.out).mono ?_; rintro e w1 ⟨rfl, hb1⟩; have HB1 := Lib.hid hb1; clear hb1)
    | fail)
  go_ret
  exact ⟨rfl, HB1.out⟩

set_option maxRecDepth 100000 in
theorem owed : OwedT Tryz.prog 3 Tryz.f3 (laidMetH Tryz.prog Rows.hartAddsRow.laid) := by
  intro H enc W base args ds p hL hval hA
  rw [Tryz.params3] at hval hA
  obtain ⟨hl, _⟩ := trodAll_len _ _ _ _ hA
  obtain ⟨v0, v1, rfl⟩ : ∃ v0 v1, args = #[v0, v1] := by
    obtain ⟨l⟩ := args
    match l, hl with
    | [v0, v1], _ => exact ⟨v0, v1, rfl⟩
  obtain ⟨_, _, _, _, h0, r0⟩ := trodAll_head (v := v0) (vs := [v1]) hA
  obtain ⟨_, _, _, _, h1, r1⟩ := trodAll_head (v := v1) (vs := []) r0
  clear r1
  have hv0 := hval 0 22 v0 rfl rfl
  have hv1 := hval 1 5 v1 rfl rfl
  clear hval hA
  have hG : Sy.GlobsAre W 3 gl := globs hL
  obtain ⟨at_, rfl, ha1, ha2⟩ := open_int_ok Tryz.underlying5 hv1
  have hat : 0 ≤ at_ ∧ at_ < 256 := by
    simp [IntKind.min, IntKind.max, IntKind.signed, IntKind.bits] at ha1 ha2
    omega
  rcases Sy.sl_fits Tryz.underlying22 hv0 with rfl | ⟨b, off, n, cap, rfl, _⟩
  · exact hartAdds_walk none 0 [] at_ hat (by simp) (by simp) W hG (.inl rfl)
  · by_cases hl : n ≤ 60
    · obtain ⟨fu, hf⟩ := h0
      obtain ⟨ws, cur, t', fr, hh, hc⟩ := Sy.row_of Tryz.underlying22 Tryz.underlying29 (by kernel_rfl) (Sy.sl_shape Tryz.underlying22 hv0) hf
      obtain ⟨l, hll⟩ : ∃ l : List Int, l = (List.range n).map fun i => IntKind.u16.wrap (ws 0 i) := ⟨_, rfl⟩
      have hlen : l.length = n := by rw [hll]; simp
      have hget : ∀ (i : Nat) (x : Int), l[i]? = some x → i < n ∧ x = IntKind.u16.wrap (ws 0 i) := by
        intro i x hx
        have hi : i < n := by rw [← hlen]; exact (List.getElem?_eq_some_iff.1 hx).1
        rw [hll, List.getElem?_map, List.getElem?_range hi] at hx
        exact ⟨hi, (Option.some.inj hx).symm⟩
      have h := hartAdds_walk (some ⟨b, off, none⟩) cap l at_ hat (by omega) (fun x hx => by
          obtain ⟨i, hi⟩ := List.getElem?_of_mem hx
          rw [(hget i x hi).2]
          have := IntKind.wrap_u16 (ws 0 i)
          omega) W hG (.inr ⟨b, off, rfl, (Array.getElem?_eq_some_iff.1 hh).1, fun i x hx => by
          obtain ⟨h1, h2⟩ := hget i x hx
          have h3 := hc i 0 .u16 0 h1 rfl
          simp only [List.length_cons, List.length_nil, Nat.zero_add, Nat.mul_one, Nat.add_zero] at h3
          simp only [World.cell?, hh]
          rw [h2]
          simpa using h3⟩)
      rw [hlen] at h
      exact h
    · exact hartAdds_far _ n cap _ W hG (by omega)

theorem own : ownKnob Tryz.prog.godebug = none := by kernel_rfl
theorem laidOut : laidOutB Tryz.prog = true := by kernel_rfl
theorem door_met (os : Os) (args : Array Value) : laidMetH Tryz.prog Rows.hartAddsRow.laid ((World.doorLaid Tryz.prog 400 os).forCall (fun _ _ => 0) ⟨#[], args, []⟩).memory :=
  laidMetH_of_parts3 (fuel := 8) (laidMet_of_run' 8 (by kernel_rfl) (by kernel_rfl)) (by kernel_rfl) (by kernel_rfl)

set_option maxRecDepth 100000 in
theorem lifted (os : Os) (started : os.Started) (H : Type) (enc : TypeId × Value → H) :
    ReturnsInHanded {} Tryz.checked os 3 .any (fun w args => (Rows.hartAddsSpec.pre enc Tryz.prog Tryz.f3 Rows.hartAddsRow.domain false w args ∧ laidMetH Tryz.prog Rows.hartAddsRow.laid w) ∧ sizedMet enc Tryz.prog Tryz.f3 (OpenSpec.ofChange Rows.hartAddsSpec) false w args)
      (Rows.hartAddsSpec.post enc Tryz.prog Tryz.f3 false true false false) := by
  refine law_tied (C := Tryz.checked) (tb := 4) own started (by kernel_rfl) Tryz.func3
    (ChangeSpec.witness_shaped (enc := enc) (C := Tryz.checked) (os := os) (X := fun w _ => laidMetH Tryz.prog Rows.hartAddsRow.laid w) false (World.doorLaid Tryz.prog 400 os) #[.slice none 0 0, .int .u8 0] 8 rfl (World.shaped_of_RefB (by kernel_rfl) (by kernel_rfl)) (by kernel_rfl) (by kernel_rfl) (by kernel_rfl) (door_met os _))
    rfl Tryz.underlying4 rfl ?_ laidOut (of_decide_eq_true (by kernel_rfl)) owed
  intro ds hl
  match ds, hl with
  | [a, b], _ => exact ⟨rfl, rfl, rfl⟩

theorem over : Rows.hartAddsRow.holds Tryz.pinned (OpenSpec.ofChange Rows.hartAddsSpec) :=
  OpenClaim.holds_of_wide 3 Tryz.f3 rfl rfl rfl rfl rfl rfl rfl ⟨rfl, rfl, rfl, rfl, rfl⟩ rfl rfl rfl rfl rfl (by kernel_rfl) Tryz.func3 (by kernel_rfl)
    (of_decide_eq_true (by kernel_rfl)) (by unfold Func.isWrapper; first | (rw [if_pos (by decide +kernel)]; kernel_rfl) | (rw [if_neg (by decide +kernel)]; exact ⟨rfl, rfl⟩))
    (fun os started H enc _ => lifted os started H enc)

theorem proved : Rows.HartAddsCardSaid :=
  Claim7.holds_tied_plain_at .later [] [.data, .data, .data] true (true, "2daca44cac35e0c4c98a2a4d100166b045e20ae84af5328d7f3377828a627317") true
    over (fun _ h => by cases h) (by kernel_rfl) (fun _ h => by cases h) hartAdds_row_tie rfl ⟨rfl, rfl⟩ (by kernel_rfl) rfl
    (fun f fn hf hfn => by
      obtain rfl : f = 3 := Option.some.inj ((show Tryz.prog.funcNamed "dioptra/dioptralaw19.HartAdds" = some 3 by kernel_rfl).symm.trans hf) |>.symm
      obtain rfl : fn = Tryz.f3 := (Option.some.inj (Tryz.func3.symm.trans hfn)).symm
      exact ⟨by kernel_rfl, fun j t ht => by
        have hall : (Tryz.f3.params.toList.all fun u => !Tryz.prog.wantsStandIn u) = true := by kernel_rfl
        have hm : t ∈ Tryz.f3.params.toList := by simpa using Array.mem_of_getElem? ht
        have h1 : Tryz.prog.wantsStandIn t = false := by simpa using List.all_eq_true.1 hall t hm
        exact h1⟩)
    (by kernel_rfl)
end hartAdds
#print axioms hartAdds.proved
end Go.Proofs.YtkljleenmmeneaaGreatDoor
