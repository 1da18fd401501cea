/- Walks of package latest: Needed. -/
import Derived.Test.YtihlbfbplmehiaaLatC
import Derived.Scope
namespace Go.Proofs.Ytihlbfbplmehiaa
open Go.RowKit Go.Shelf
set_option maxHeartbeats 4000000
attribute [local go_sem] Oper.semAt_some

section
variable {F : Fence} {n : Nat} {P : Program} {b : Frame} {a : Act} {k : List Item} {cs : List Frame} {w : World} {Q : Exit → Act → World → Prop}
theorem stepR_scope {c : Code} : step P (lone (b.atR a (.code (.scope c) :: k)) cs w) = .next (lone (b.atR a (.code c :: .inScope c :: k)) cs w) :=
  step_lone_go (by simp [stepG, stepG.exec, Frame.atR])
theorem stepR_inScope {c : Code} : step P (lone (b.atR a (.inScope c :: k)) cs w) = .next (lone (b.atR a k) cs w) :=
  step_lone_go (by simp [stepG, stepG.exec, Frame.atR])
/-- a scope through which no goto goes -/
theorem wpIn_scope {c : Code} (h : c.wpIn F n P (Exit.noGoto Q) a w) : (Code.scope c).wpIn F n P Q a w := by
  intro b k cs hro hb hr
  have h0 : (lone (b.atR a (.code (.scope c) :: k)) cs w).fenced P F := fenced_calm hb hr rfl
  obtain ⟨e, a₁, w₁, hq, harr⟩ := h b (.inScope c :: k) cs hro hb hr
  cases e with
  | normal => exact ⟨.normal, a₁, w₁, hq, .head h0 stepR_scope (StepsIn.trans harr (.one (fenced_calm hb hr rfl) stepR_inScope))⟩
  | exit id =>
    have hx : exitTo id (.inScope c :: k) = exitTo id k := by simp [exitTo]
    exact ⟨.exit id, a₁, w₁, hq, fun k' hk => .head h0 stepR_scope (harr.1 k' (by rw [hx]; exact hk)), fun hr' hk => let ⟨k₁, h1, h2⟩ := harr.2 hr' (by rw [hx]; exact hk); ⟨k₁, h1, .head h0 stepR_scope h2⟩⟩
  | goto l => exact hq.elim
  | ret => exact ⟨_, a₁, w₁, hq, .of_steps (.one h0 stepR_scope) harr⟩
  | panic ch => exact ⟨_, a₁, w₁, hq, .of_steps (.one h0 stepR_scope) harr⟩
  | outgrown => exact ⟨_, a₁, w₁, hq, .of_steps (.one h0 stepR_scope) harr⟩
end
def plsCells (l : List Pl) : List Value := l.flatMap Pl.cells
theorem plsCells_snoc (l : List Pl) (x : Pl) : plsCells (l ++ [x]) = plsCells l ++ x.cells := by unfold plsCells; simp
/-- the pages of a block that stand nowhere else -/
def needP (all : List Pl) (block : Int) (x : Pl) : Bool := decide ((x.b : Int) = block) && !(all.any fun y => standsB y x)
def neededOf (all : List Pl) (block : Int) (pre : List Pl) : List Pl := pre.filter (needP all block)
theorem needed_yes {all pre : List Pl} {block : Int} {x : Pl} (h : needP all block x = true) : neededOf all block (pre ++ [x]) = neededOf all block pre ++ [x] := by unfold neededOf; simp [h]
theorem needed_no {all pre : List Pl} {block : Int} {x : Pl} (h : needP all block x = false) : neededOf all block (pre ++ [x]) = neededOf all block pre := by unfold neededOf; simp [h]

theorem ownFrom_keepB {β : Type} (B : Nat) (w0 : World) : OwnFrom B (fun (_ : β) W => KeepB w0 W) := fun s W W' row hs hg hr k c hA => ownFrom_at (β := β) B k _ (fun _ => c) s W W' row (hs k c hA) hg hr
theorem ownFrom_blt {β : Type} (B : Nat) (sv : Value) (bs : List Bk) : OwnFrom B (fun (_ : β) W => Blt W sv bs) := fun s W W' row hs hg hr => hs.keep fun k c hA => ownFrom_at (β := β) B k _ (fun _ => c) s W W' row hA hg hr

theorem At.of_new {w w' : World} {c : List Value} {t : TypeId} (h : New w w' (.cells c.toArray t)) : At w' w.heap.size c t := h.to
/-- where there is no fence, the depth is whatever one likes -/
theorem callsIn_any {n n' : Nat} {P : Program} {f : FuncId} {args : Array Value} {w : World} {R : Ending → World → Prop} (h : CallsIn Fence.wide n P f args w R) : CallsIn Fence.wide n' P f args w R := ⟨h.1, fun cs _ => h.2 cs (room_wide _)⟩
theorem yieldAt_any {n n' : Nat} {P : Program} {l : Nat} {args : Array Value} {W : World} {R : Ending → World → Prop} (h : YieldAt Fence.wide n P l args W R) : YieldAt Fence.wide n' P l args W R := by
  obtain ⟨fn, tmps, assign, body, hy, hR⟩ := h
  exact ⟨fn, tmps, assign, body, hy, hR.1, fun c cs _ => hR.2 c cs (room_wide _)⟩
theorem SeqStopsK.any {α : Type} {n n' : Nat} {P : Program} {g : Nat} {lb : Array Value} {encs : α → Array Value} {Kp : World → World → Prop} {S Sp : List α → Prop} {N : Nat} {w : World} (h : SeqStopsK Fence.wide n P g lb encs Kp S Sp N w) : SeqStopsK Fence.wide n' P g lb encs Kp S Sp N w :=
  fun l J Jx W hW hJ hJx hY h0 => callsIn_any (h l J Jx W hW hJ hJx (fun pre x W1 h1 h2 => yieldAt_any (hY pre x W1 h1 h2)) h0)
/-- what the walk of Needed carries along: variables' cells, the result's row -/
structure NdW (sv : Value) (block : Int) (bs : List Bk) (w : World) (g2 g3 g5 : Nat) (v0 v : Value) (n : Nat) (cs : List Value) (W : World) : Prop where
  at5 : At W g5 [v0] 32
  own : W.ownsRow w.heap.size 29 9 v n cs
  at2 : At W g2 [sv] 43
  at3 : At W g3 [.int .i64 block] 3
  blt : Blt W sv bs
  below : Below w.heap.size w W
  hg : w.heap.size ≤ g5
section
variable {sv : Value} {block : Int} {bs : List Bk} {w W V : World} {g2 g3 g5 : Nat} {v0 v v' : Value} {n n' : Nat} {cs cs' : List Value}
theorem NdW.call (h : NdW sv block bs w g2 g3 g5 v0 v n cs W) (hb : Below W.heap.size W V) : NdW sv block bs w g2 g3 g5 v0 v n cs V :=
  ⟨h.at5.of_below hb, own_below h.own hb, h.at2.of_below hb, h.at3.of_below hb, h.blt.keep (keepB_below hb), h.below.trans (hb.mono h.below.size), h.hg⟩
theorem NdW.append (h : NdW sv block bs w g2 g3 g5 v0 v n cs W) (ho : V.ownsRow w.heap.size 29 9 v' n' cs') (hg : W.grownBy V v.ownBlock) : NdW sv block bs w g2 g3 g5 v0 v' n' cs' V :=
  ⟨at_grown h.at5 hg (own_ne h.own h.at5 (by decide)), ho, at_grown h.at2 hg (own_ne h.own h.at2 (by decide)), at_grown h.at3 hg (own_ne h.own h.at3 (by decide)),
    h.blt.keep (fun k c hA => at_grown hA hg (own_ne h.own hA (by decide))), h.below.grown hg h.below.size (fun k e => (own_block h.own e).1), h.hg⟩
theorem NdW.keepB (h : NdW sv block bs w g2 g3 g5 v0 v n cs W) (hg : W.grownBy V v.ownBlock) : KeepB W V := fun k c hA => at_grown hA hg (own_ne h.own hA (by decide))
theorem NdW.others (h : NdW sv block bs w g2 g3 g5 v0 v n cs W) (hg : W.grownBy V v.ownBlock) : KeepsOthers W V := ⟨hg.size, fun k o hk hoc => by
  rw [hg.block k (Array.getElem?_eq_some_iff.1 hk).1 (fun e => by
    obtain ⟨_, cur, hc⟩ := own_block h.own e.symm
    rw [hc] at hk; cases hk; cases hoc)]
  exact hk⟩
theorem NdW.stored (h : NdW sv block bs w g2 g3 g5 v0 v n cs W) (hu : Upd W V g5 (.cells [v].toArray 32)) : NdW sv block bs w g2 g3 g5 v v n cs V :=
  ⟨hu.to, own_upd h.own hu (own_ne h.own h.at5 (by decide)), hu.at h.at2 (at_ne2 h.at2 h.at5 (by decide)), hu.at h.at3 (at_ne2 h.at3 h.at5 (by decide)), h.blt.keep (keepB_same h.at5 (by decide) hu.same), h.below.trans (hu.below h.hg), h.hg⟩
where
  at_ne2 {w : World} {g g' : Nat} {c c' : List Value} {t t' : TypeId} (h : At w g c t) (h' : At w g' c' t') (ht : t ≠ t') : g ≠ g' := by
    rintro rfl
    have := h.heap
    rw [h'.heap] at this
    cases this
    exact ht rfl
theorem ownFrom_nd {β : Type} (B : Nat) (v : Value) (n : Nat) (cs : List Value) (hB : w.heap.size ≤ B) : OwnFrom B (fun (_ : β) W => NdW sv block bs w g2 g3 g5 v v n cs W) := fun s W W' row hs hg hr =>
  ⟨ownFrom_at B g5 _ (fun _ => [v]) s W W' row hs.at5 hg hr, own_kept hs.own hg (fun r e => (hr r e).2), ownFrom_at B g2 _ (fun _ => [sv]) s W W' row hs.at2 hg hr, ownFrom_at B g3 _ (fun _ => [.int .i64 block]) s W W' row hs.at3 hg hr, ownFrom_blt B sv bs s W W' row hs.blt hg hr,
    ownFrom_below (Nat.le_refl _) hB s W W' row hs.below hg hr, hs.hg⟩
end
/-- the result so far -/
def NdI (sv : Value) (block : Int) (bs : List Bk) (w : World) (g2 g3 g5 : Nat) (pre : List Po) (W : World) : Prop := ∃ v, NdW sv block bs w g2 g3 g5 v v (neededOf (plsOf bs) block (pv pre)).length (plsCells (neededOf (plsOf bs) block (pv pre))) W

set_option maxRecDepth 100000 in
theorem needed_in (sv : Value) (block : Int) (bs : List Bk) (hlen : bs.length ≤ 1000) (hok : ∀ b ∈ bs, b.ok) (w : World) (h2 : Blt w sv bs) :
    CallsIn Fence.wide 14 Try.prog 16 #[sv, .int .i64 block] w fun e w' => (∃ v, e = .returned v ∧ w'.ownsRow w.heap.size 29 9 v (neededOf (plsOf bs) block (plsOf bs)).length (plsCells (neededOf (plsOf bs) block (plsOf bs)))) ∧ Below w.heap.size w w' := by
  refine callsIn_of_wp_marks Try.func16 rfl trivial ?_ rfl
  simp only [Try.ntmps16, List.size_toArray, List.length_cons, List.length_nil, Nat.reduceAdd, Nat.reduceSub, Array.replicate_succ, Array.replicate_zero, List.push_toArray, List.append_toArray, List.nil_append, List.cons_append]
  have Hi9 : Hid ((Try.prog.info? 29).map (·.size) = some 9) := by unfold Hid; kernel_rfl
  have Hi1 : Hid ((Try.prog.info? 32).map (·.size) = some 1) := by unfold Hid; kernel_rfl
  have Hz9 : Hid (((Try.prog.info? 29).bind (·.zero)).isSome = true) := by unfold Hid; kernel_rfl
  have Hzc : Hid (((Try.prog.info? 29).bind (·.zero)).map (·.cells.size) = some 9) := by unfold Hid; kernel_rfl
  have Hby : Hid (((Try.prog.info? 29).map (·.bytes)).any (· ≤ 1000000) = true) := by unfold Hid; kernel_rfl
  obtain ⟨a, cp, rfl⟩ := h2.shape
  have H2 := Lib.hid h2; have Hok := Lib.hid hok; clear h2 hok
  gi_wp2_with fail
  refine wpIn_scope ?_
  gi_wp2_with fail
  obtain ⟨W3, hW3⟩ : ∃ W3, (((w.alloc (.cells #[.slice a bs.length cp] 43)).alloc (.cells #[.int .i64 block] 3)).alloc (.cells #[.slice none 0 0] 32)) = W3 := ⟨_, rfl⟩
  rw [hW3]
  have hNd : NdW (.slice a bs.length cp) block bs w w.heap.size (w.heap.size + 1) (w.heap.size + 1 + 1) (.slice none 0 0) (.slice none 0 0) 0 [] W3 := by
    have n1 := New.alloc w (.cells #[.slice a bs.length cp] 43)
    have n2 := New.alloc (w.alloc (.cells #[.slice a bs.length cp] 43)) (.cells #[.int .i64 block] 3)
    have n3 := New.alloc ((w.alloc (.cells #[.slice a bs.length cp] 43)).alloc (.cells #[.int .i64 block] 3)) (.cells #[.slice none 0 0] 32)
    rw [hW3] at n3
    have s1 : (w.alloc (.cells #[.slice a bs.length cp] 43)).heap.size = w.heap.size + 1 := World.size_alloc _ _
    have s2 : ((w.alloc (.cells #[.slice a bs.length cp] 43)).alloc (.cells #[.int .i64 block] 3)).heap.size = w.heap.size + 1 + 1 := by rw [World.size_alloc, s1]
    have hb : Below w.heap.size w W3 := ((n1.below (Nat.le_refl _)).trans (n2.below (by omega))).trans (n3.below (by omega))
    refine ⟨?_, World.ownsRow_nil _ _ _ _, n3.at (n2.at n1.to), ?_, H2.out.keep (keepB_below hb), hb, by omega⟩
    · have h := At.of_new n3; rw [s2] at h; exact h
    · have h := n3.at (At.of_new n2); rw [s1] at h; exact h
  obtain ⟨g2, hg2⟩ : ∃ g, w.heap.size = g := ⟨_, rfl⟩
  rw [hg2] at hNd ⊢
  obtain ⟨g3, hg3⟩ : ∃ g, g2 + 1 = g := ⟨_, rfl⟩
  rw [hg3] at hNd ⊢
  obtain ⟨g5, hg5⟩ : ∃ g, g3 + 1 = g := ⟨_, rfl⟩
  rw [hg5] at hNd ⊢
  have c2 : W3.cell? ⟨g2, 0, none⟩ = some (.slice a bs.length cp) := hNd.at2.cell 0
  have HN3 := Lib.hid hNd
  clear hNd hW3 hg2 hg3 hg5
  refine wpIn_label ?_
  gi_wp2_with fail
  refine ⟨trivial, (all_in _ _ _).mono ?_⟩
  rintro e W4 ⟨rfl, hn4⟩
  have HN4 := Lib.hid (HN3.out.call (hn4.below (Nat.le_refl _)))
  have HC4 : Hid (At W4 W3.heap.size [.slice a bs.length cp] 43) := Lib.hid hn4.to
  clear hn4 c2
  obtain ⟨B1, hB1⟩ : ∃ g, W3.heap.size = g := ⟨_, rfl⟩
  rw [hB1] at HC4 ⊢
  clear hB1 HN3
  gi_wp2_with fail
  refine wpIn_rangeFunc_ownH rfl (by omega) (gf := 34) (lb := #[.pointer (some ⟨B1, 0, none⟩)]) rfl trivial (enters_of Try.func34 (by kernel_rfl) rfl)
    (SeqStopsK.any (all_stops B1 _ bs hlen _ W4 HC4.out HN4.out.blt)) keepB_t (fun W l o o' h1 h2 h3 h4 => keepB_b (w := W4) W l o o' h1 h2 h3 h4) (Below.refl _ _) (fun _ => rfl)
    (NdI (.slice a bs.length cp) block bs w g2 g3 g5) (fun _ _ _ => False)
    (fun s W W' row hs hg hr => by obtain ⟨v, h⟩ := hs; exact ⟨v, ownFrom_nd _ v _ _ HN4.out.below.size s W W' row h hg hr⟩) (fun _ _ _ _ _ hs _ _ => hs)
    ⟨_, HN4.out⟩
    (fun x a' W => ∃ gx, a' = { tmps := #[.slice a bs.length cp, .int .i64 block, .pointer (some ⟨g2, 0, none⟩), .pointer (some ⟨g3, 0, none⟩), .slice none 0 0, .pointer (some ⟨g5, 0, none⟩), .pointer (some ⟨gx, 0, none⟩), undef, .slice a bs.length cp, .func (.func 34) #[] #[.pointer (some ⟨B1, 0, none⟩)], .agg x.1.cells.toArray, undef, undef, undef, undef, undef, undef, undef, undef, undef, undef, undef, undef, undef, undef, undef], defers := [] } ∧ At W gx x.1.cells 29)
    (fun x a' s W W' row hs hg hr => by obtain ⟨gx, h1, h2⟩ := hs; exact ⟨gx, h1, ownFrom_at _ _ _ (fun _ : Unit => x.1.cells) () W W' row h2 hg hr⟩)
    ?assign ?body ?done ?stop
  case assign =>
    rintro l pre x W K ⟨v, hI⟩ hK
    have HI := Lib.hid hI; have HK := Lib.hid hK; clear hI hK
    unfold plEnc
    gi_wp2_with (first
      | (refine al_in rfl rfl (zero_place _) ?_; intro w3 hn3
         have HZ3 : Hid (At w3 W.heap.size (Pl.cells ⟨0, 0, Pg.zero⟩) 29) := Lib.hid hn3.to
         have HB3 := Lib.hid (hn3.below (Nat.le_refl _)); clear hn3; refine Hold.out ?_)
      | fail)
    refine ⟨?_⟩
    refine st_agg_in rfl rfl rfl rfl HZ3.out 9 Hi9.out (pl_len x.1) (Nat.le_refl 9) (pl_one x.1) ?_; intro w4 hu4
    have HA4 : Hid (At w4 W.heap.size x.1.cells 29) := Lib.hid hu4.to
    have HB4 : Hid (Below W.heap.size W w4) := Lib.hid (HB3.out.trans (hu4.below (Nat.le_refl _))); clear hu4
    gi_wp2_with fail
    exact HK.out _ _ ((keepsOthers_below HB4.out).from _) (keepB_below HB4.out) ⟨v, HI.out.call HB4.out⟩ ⟨_, rfl, HA4.out⟩
  case body =>
    rintro l pre x a' W hl hloop ⟨v, hI⟩ ⟨gx, rfl, hAx⟩ hN
    have hc0 : W.cell? ⟨gx, 0, none⟩ = some (.int .i64 x.1.b) := hAx.cell 0
    have hc3 : W.cell? ⟨g3, 0, none⟩ = some (.int .i64 block) := hI.at3.cell 0
    have hc2 : W.cell? ⟨g2, 0, none⟩ = some (.slice a bs.length cp) := hI.at2.cell 0
    have HI := Lib.hid hI; have HAx := Lib.hid hAx; have HN := Lib.hid hN; have HL := Lib.hid hl; have HLp := Lib.hid hloop
    clear hI hAx hN hl hloop
    by_cases hb : (x.1.b : Int) = block
    · have hbb : ((x.1.b : Int) != block) = false := by rw [bne_eq_false_iff_eq]; exact hb
      have Hb := Lib.hid hb; clear hb
      gi_wp2_with fail
      refine ⟨trivial, (CallsIn.inRound l (all_in _ _ _)).mono ?_⟩
      rintro e W5 ⟨rfl, hn5⟩
      have HB5 := Lib.hid (hn5.below (Nat.le_refl _))
      have HI5 := Lib.hid (HI.out.call HB5.out)
      have HAx5 := Lib.hid (hn5.at HAx.out)
      have HC5 : Hid (At W5 W.heap.size [.slice a bs.length cp] 43) := Lib.hid hn5.to
      have hloop5 : ∃ r, W5.heap[l]? = some (.loop r) := by
        obtain ⟨r, hr⟩ := HLp.out
        exact ⟨r, (HB5.out.block l (Array.getElem?_eq_some_iff.1 hr).1).trans hr⟩
      obtain ⟨r5, hr5⟩ := hloop5
      obtain ⟨B2, hB2⟩ : ∃ g, W.heap.size = g := ⟨_, rfl⟩
      rw [hB2] at HC5 ⊢
      clear hn5 hc0 hc2 hc3 hB2
      gi_wp2_with fail
      refine wpIn_rangeFunc_ownN rfl hr5 (by omega) (gf := 34) (lb := #[.pointer (some ⟨B2, 0, none⟩)]) rfl trivial (enters_of Try.func34 (by kernel_rfl) rfl)
        (SeqStopsK.inRound l (SeqStopsK.any (all_stops B2 _ bs hlen _ W5 HC5.out HI5.out.blt))) keepB_t (fun W' l o o' h1 h2 h3 h4 => keepB_b (w := W5) W' l o o' h1 h2 h3 h4) (Below.refl _ _) (fun _ => rfl)
        (fun pre2 V => (pre2.any fun y => standsB y.1 x.1) = false ∧ NdW (.slice a bs.length cp) block bs w g2 g3 g5 v v (neededOf (plsOf bs) block (pv pre)).length (plsCells (neededOf (plsOf bs) block (pv pre))) V ∧ At V gx x.1.cells 29 ∧ KeepsFrom W4.heap.size W V ∧ KeepB W V)
        (fun c pre2 V => (c = .exit 1 ∧ (pre2.any fun y => standsB y.1 x.1) = true) ∧ NdW (.slice a bs.length cp) block bs w g2 g3 g5 v v (neededOf (plsOf bs) block (pv pre)).length (plsCells (neededOf (plsOf bs) block (pv pre))) V ∧ KeepsFrom W4.heap.size W V ∧ KeepB W V)
        (OwnFrom.and (ownFrom_pure _ _) (OwnFrom.and (ownFrom_nd _ _ _ _ HI5.out.below.size) (OwnFrom.and (ownFrom_at _ _ _ (fun _ => x.1.cells)) (OwnFrom.and (ownFrom_keepsFrom HB5.out.size) (ownFrom_keepB _ _)))))
        (fun c => OwnFrom.and (ownFrom_pure _ _) (OwnFrom.and (ownFrom_nd _ _ _ _ HI5.out.below.size) (OwnFrom.and (ownFrom_keepsFrom HB5.out.size) (ownFrom_keepB _ _))))
        ⟨rfl, HI5.out, HAx5.out, (keepsOthers_below HB5.out).from _, keepB_below HB5.out⟩
        (fun y a' V => ∃ gy, a' = { tmps := #[.slice a bs.length cp, .int .i64 block, .pointer (some ⟨g2, 0, none⟩), .pointer (some ⟨g3, 0, none⟩), .slice none 0 0, .pointer (some ⟨g5, 0, none⟩), .pointer (some ⟨gx, 0, none⟩), .pointer (some ⟨gy, 0, none⟩), .slice a bs.length cp, .func (.func 34) #[] #[.pointer (some ⟨B1, 0, none⟩)], .agg x.1.cells.toArray, .pointer (some ⟨gx, 0, none⟩), .int .i64 x.1.b, .int .i64 block, .bool false, .slice a bs.length cp, .func (.func 34) #[] #[.pointer (some ⟨B2, 0, none⟩)], .agg y.1.cells.toArray, undef, undef, undef, undef, undef, undef, undef, undef], defers := [] } ∧ At V gy y.1.cells 29)
        (fun y a' s V V' row hs hg hr => by obtain ⟨gy, h1, h2⟩ := hs; exact ⟨gy, h1, ownFrom_at _ _ _ (fun _ : Unit => y.1.cells) () V V' row h2 hg hr⟩)
        ?assign2 ?body2 ?done2 ?stop2
      case assign2 =>
        rintro l2 pre2 y V K ⟨h1, h2, h3, h4, h5⟩ hK
        have HI1 := Lib.hid h1; have HI2 := Lib.hid h2; have HI3 := Lib.hid h3; have HI4 := Lib.hid h4; have HI6 := Lib.hid h5; have HK := Lib.hid hK; clear h1 h2 h3 h4 h5 hK hr5
        unfold plEnc
        gi_wp2_with (first
          | (refine al_in rfl rfl (zero_place _) ?_; intro w3 hn3
             have HZ3 : Hid (At w3 V.heap.size (Pl.cells ⟨0, 0, Pg.zero⟩) 29) := Lib.hid hn3.to
             have HB3 := Lib.hid (hn3.below (Nat.le_refl _)); clear hn3; refine Hold.out ?_)
          | fail)
        refine ⟨?_⟩
        refine st_agg_in rfl rfl rfl rfl HZ3.out 9 Hi9.out (pl_len y.1) (Nat.le_refl 9) (pl_one y.1) ?_; intro w4 hu4
        have HA4 : Hid (At w4 V.heap.size y.1.cells 29) := Lib.hid hu4.to
        have HB4 : Hid (Below V.heap.size V w4) := Lib.hid (HB3.out.trans (hu4.below (Nat.le_refl _))); clear hu4
        gi_wp2_with fail
        exact HK.out _ _ ((keepsOthers_below HB4.out).from _) (keepB_below HB4.out) ⟨HI1.out, HI2.out.call HB4.out, HI3.out.of_below HB4.out, HI4.out.trans ((keepsOthers_below HB4.out).from _), keepB_t HI6.out (keepB_below HB4.out)⟩ ⟨_, rfl, HA4.out⟩
      case body2 =>
        rintro l2 pre2 y a' V hl2 hloop2 ⟨h1, h2, h3, h4, h5⟩ ⟨gy, rfl, hAy⟩ hN2
        have Hx : Hid (V.rangeAt gx 0 x.1.cells) := Lib.hid (at_range h3 (pl_all (pl_len _)))
        have Hy : Hid (V.rangeAt gy 0 y.1.cells) := Lib.hid (at_range hAy (pl_all (pl_len _)))
        have HI1 := Lib.hid h1; have HI2 := Lib.hid h2; have HI3 := Lib.hid h3; have HI4 := Lib.hid h4; have HI6 := Lib.hid h5; clear h1 h2 h3 h4 h5 hr5 hl2 hloop2 hAy hN2
        gi_wp2_with (first
          | (refine ld_in rfl rfl rfl Hx.out Try.underlying29 rfl Hi9.out ?_)
          | (refine ld_in rfl rfl rfl Hy.out Try.underlying29 rfl Hi9.out ?_)
          | fail)
        refine ⟨trivial, (CallsIn.inRound l2 (CallsIn.inRound l (callsIn_wide.2 (stands_any y.1 x.1 y.2 x.2 _)))).mono ?_⟩
        rintro e V2 ⟨rfl, hb2⟩
        have HB2 := Lib.hid hb2; clear hb2
        have fin : NdW (.slice a bs.length cp) block bs w g2 g3 g5 v v (neededOf (plsOf bs) block (pv pre)).length (plsCells (neededOf (plsOf bs) block (pv pre))) V2 ∧ At V2 gx x.1.cells 29 ∧ KeepsFrom W4.heap.size W V2 ∧ KeepB W V2 :=
          ⟨HI2.out.call HB2.out, HI3.out.of_below HB2.out, HI4.out.trans ((keepsOthers_below HB2.out).from _), keepB_t HI6.out (keepB_below HB2.out)⟩
        have Hfin := Lib.hid fin; clear fin
        obtain ⟨q, hq⟩ : ∃ q, standsB y.1 x.1 = q := ⟨_, rfl⟩
        rw [hq]
        have Hq := Lib.hid hq; clear hq
        cases q
        · gi_wp2_with fail
          exact ⟨(keepsOthers_below HB2.out).from _, keepB_below HB2.out, by rw [List.any_append, HI1.out]; simp [Hq.out], Hfin.out⟩
        · gi_wp2_with fail
          exact ⟨(keepsOthers_below HB2.out).from _, ⟨rfl, by rw [List.any_append]; simp [Hq.out]⟩, Hfin.out.1, Hfin.out.2.2⟩
      case done2 =>
        rintro ys V hys ⟨h1, h2, h3, h4, h5⟩
        have hall : ((plsOf bs).any fun y => standsB y x.1) = false := by rw [← hys, pv, List.any_map]; exact h1
        have hyes : neededOf (plsOf bs) block (pv (pre ++ [x])) = neededOf (plsOf bs) block (pv pre) ++ [x.1] := by rw [pv_snoc]; exact needed_yes (by unfold needP; rw [hall]; simp [Hb.out])
        have Hyes := Lib.hid hyes
        have hnl : (neededOf (plsOf bs) block (pv pre)).length ≤ 8000 := by
          have h6 : (neededOf (plsOf bs) block (pv pre)).length ≤ (pv pre).length := List.length_filter_le _ _
          rw [pv_len] at h6
          have h7 := HN.out
          omega
        have Hnl := Lib.hid hnl
        have hc5 : V.cell? ⟨g5, 0, none⟩ = some v := h2.at5.cell 0
        have Hx : Hid (V.rangeAt gx 0 x.1.cells) := Lib.hid (at_range h3 (pl_all (pl_len _)))
        have HI2 := Lib.hid h2; have HI4 := Lib.hid h4; have HI6 := Lib.hid h5; clear h1 h2 h3 h4 h5 hr5 hall hyes hnl hys
        gi_wp2_with (first
          | (refine ld_in rfl rfl rfl Hx.out Try.underlying29 rfl Hi9.out ?_; refine Hold.out ?_)
          | fail)
        refine ⟨?_⟩
        refine bs_step (K := wpListIn _ _ _ _ _ _) rfl rfl rfl Try.underlying32 9 (pl_len x.1) Hi9.out Hz9.out (by decide) (by decide) ?_; intro V3 hn3
        have HI3 := Lib.hid (HI2.out.call (hn3.below (Nat.le_refl _)))
        have HN3 : Hid (At V3 V.heap.size x.1.cells 29) := Lib.hid hn3.to
        have HK3 : Hid (KeepsFrom W4.heap.size W V3 ∧ KeepB W V3) := Lib.hid ⟨HI4.out.trans ((keepsOthers_below (hn3.below (Nat.le_refl _))).from _), keepB_t HI6.out (keepB_below (hn3.below (Nat.le_refl _)))⟩
        clear hn3
        refine ap_step (K := wpListIn _ _ _ _ _ _) rfl _ _ _ rfl w.heap.size 29 9 Try.underlying32 Hi9.out Hzc.out Hby.out (by decide) v _ _ rfl HI3.out.own ⟨V.heap.size, 0, none⟩ 1 _ rfl (pl_len x.1) (fun j u hu => by have h := HN3.out.cell j; rw [hu] at h; rw [add0]; exact h) (pl_one x.1) (by have := Hnl.out; omega) HI3.out.below.size ?_; intro v' V4 hown4 hgr4 hat4
        have HI4' := Lib.hid (HI3.out.append hown4 hgr4)
        have HK4 : Hid (KeepsFrom W4.heap.size W V4 ∧ KeepB W V4) := Lib.hid ⟨HK3.out.1.trans ((HI3.out.others hgr4).from _), keepB_t HK3.out.2 (HI3.out.keepB hgr4)⟩
        clear hown4 hgr4 hat4
        refine st_cell_in (v := v') rfl rfl rfl rfl (own_cells1 HI4'.out.own).1 HI4'.out.at5 Hi1.out (Nat.le_refl 1) (own_cells1 HI4'.out.own).2 ?_; intro V5 hu5
        have HI5' := Lib.hid (HI4'.out.stored hu5)
        have HK5 : Hid (KeepsFrom W4.heap.size W V5 ∧ KeepB W V5) := Lib.hid ⟨HK4.out.1.trans ((keepsOthers_upd HI4'.out.at5 hu5).from _), keepB_t HK4.out.2 (keepB_same HI4'.out.at5 (by decide) hu5.same)⟩
        clear hu5
        gi_wp2_with fail
        refine ⟨HK5.out.1, HK5.out.2, v', ?_⟩
        rw [Hyes.out, plsCells_snoc, List.length_append]
        exact HI5'.out
      case stop2 =>
        rintro c pre2 V ⟨t, ht⟩ ⟨⟨rfl, h1⟩, h2, h4, h5⟩
        have hall : ((plsOf bs).any fun y => standsB y x.1) = true := by
          have h6 : (pv pre2).any (fun y => standsB y x.1) = true := by rw [pv, List.any_map]; exact h1
          rw [← ht, List.any_append, h6]; rfl
        have hno : neededOf (plsOf bs) block (pv (pre ++ [x])) = neededOf (plsOf bs) block (pv pre) := by rw [pv_snoc]; exact needed_no (by unfold needP; rw [hall]; simp)
        have Hno := Lib.hid hno; have HI2 := Lib.hid h2; have HI4 := Lib.hid h4; have HI6 := Lib.hid h5; clear h1 h2 h4 h5 hr5 hall hno ht
        refine wpIn_exit ?_
        show _ ∧ _
        refine ⟨HI4.out, HI6.out, v, ?_⟩
        rw [Hno.out]
        exact HI2.out
    · have hbb : ((x.1.b : Int) != block) = true := by rw [bne_iff_ne]; exact hb
      have hno : neededOf (plsOf bs) block (pv (pre ++ [x])) = neededOf (plsOf bs) block (pv pre) := by rw [pv_snoc]; exact needed_no (by unfold needP; simp [hb])
      have Hno := Lib.hid hno; clear hno hb
      gi_wp2_with fail
      refine ⟨KeepsFrom.refl _ _, keepB_refl _, v, ?_⟩
      rw [Hno.out]
      exact HI.out
  case done =>
    rintro D xs W hD hxs ⟨v, hI⟩ hK
    rw [hxs] at hI
    clear hxs
    have hc5 : W.cell? ⟨g5, 0, none⟩ = some v := hI.at5.cell 0
    have HI := Lib.hid hI; have HD := Lib.hid hD; have HK := Lib.hid hK
    clear hI hD hK
    gi_wp2_with fail
    refine ⟨by simp, .inl ⟨_, _, rfl, run_takeDeferred HK.out, ?_⟩⟩
    refine ⟨v, by simp [results, Try.f16, go_sem], ⟨v, rfl, ?_⟩, below_putObj HI.out.below (Nat.le_trans HN4.out.below.size HD.out) (Nat.le_refl _)⟩
    exact own_kept HI.out.own (grownBy_putObj' W D _) (fun r e => by cases e; exact ⟨_, HK.out, rfl⟩)
  case stop =>
    rintro D c pre W _ _ h _
    exact h.elim
theorem needed_any (sv : Value) (block : Int) (bs : List Bk) (hlen : bs.length ≤ 1000) (hok : ∀ b ∈ bs, b.ok) (w : World) (h2 : Blt w sv bs) :
    Calls Try.prog 16 #[sv, .int .i64 block] w fun e w' => (∃ v, e = .returned v ∧ w'.ownsRow w.heap.size 29 9 v (neededOf (plsOf bs) block (plsOf bs)).length (plsCells (neededOf (plsOf bs) block (plsOf bs)))) ∧ Below w.heap.size w w' := callsIn_wide.1 (needed_in sv block bs hlen hok w h2)
end Go.Proofs.Ytihlbfbplmehiaa
