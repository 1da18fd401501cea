/- Seat 19: a step of a hart at an adding word, by a run of the evaluator. -/
import Derived.Test.YtkljleenmmeneaaGreatDoorHartA
import Derived.Test.YtkljleenmmeneaaGreatDoorDecRow
import Derived.Test.YtkljleenmmeneaaGreatDoorQuiet
namespace Go.Proofs.YtkljleenmmeneaaGreatDoor
open Go.RowKit
set_option maxHeartbeats 4000000

namespace hartRow
open hartA Sy decRow
abbrev zV : V := .int .u32 (.s 0)
abbrev xsV (s : V) : Nat → Nat → List V
  | _, 0 => []
  | rd, k + 1 => (match Nat.beq rd 0 with
    | true => s
    | false => zV) :: xsV s (match rd with
    | 0 => 99
    | r + 1 => r) k
abbrev hartV (s cy pc : E) (rd : Nat) : V := .agg ([zV, zV, zV, zV, zV, zV, zV, zV, zV, zV, zV, zV, zV, zV, zV, zV, .int .u64 (.d cy), .int .i64 (.s 3), .int .u32 (.d pc)] ++ (xsV (.int .u32 (.d s)) rd 32 ++ [zV, .bool (.s false), .bool (.s false)]))
abbrev pcE : E := .bin .add .u32 (.c 4096) (.bin .mul .u32 (.c 4) (.v 1))
abbrev in0 (rd : Nat) : V := hartV (.v 0) (.v 1) pcE rd
abbrev out0 (rd : Nat) : V := hartV (.wrap .u32 (.bin .add .u32 (.v 0) (.v 3))) (.bin .add .u64 (.v 1) (.c 1)) (.bin .add .u32 pcE (.c 4)) rd
abbrev ent (rd : Nat) : HE := ⟨17, false, [.int .u32 (.d (.ld .u32 0 (.v 1)))], .tup [.agg [.int .i64 (.s 19), .int .i64 (.s rd), .int .i64 (.s rd), .int .i64 (.s 0), .int .u32 (.d (.v 3))], .bool (.s true)]⟩
abbrev vs : List (Int × Int) := [(0, 4294967295), (0, 59), (1, 60), (0, 4294967295)]
abbrev pc0 : List (B × Bool) := [(.lt (.v 1) (.v 2), true)]
noncomputable abbrev mem : Mem := ⟨(((gTab gl).set 3 (.cells roT 2 (PT.ofL 14 [.ptr 4 0, .nils]))).set 4 (.cells roT 2 (PT.ofL 14 [.int .u32 (.s 4096), .sl 5 (.c 0) (.v 2)]))).set 5 (.arr (.c 0) (.v 2) [(.u32, 0)]), 6, 6⟩
theorem mem_get {i : Nat} {k : Blk} (h : mem.blks.get i = some k) : (i = 5 ∧ k = .arr (.c 0) (.v 2) [(.u32, 0)]) ∨ (i = 4 ∧ k = .cells roT 2 (PT.ofL 14 [.int .u32 (.s 4096), .sl 5 (.c 0) (.v 2)])) ∨ (i = 3 ∧ k = .cells roT 2 (PT.ofL 14 [.ptr 4 0, .nils])) ∨ (gTab gl).get i = some k := by
  have h : ((((gTab gl).set 3 (.cells roT 2 (PT.ofL 14 [.ptr 4 0, .nils]))).set 4 (.cells roT 2 (PT.ofL 14 [.int .u32 (.s 4096), .sl 5 (.c 0) (.v 2)]))).set 5 (.arr (.c 0) (.v 2) [(.u32, 0)])).get i = some k := h
  rcases PT.get_set _ _ _ _ _ h with h1 | ⟨_, h⟩
  · exact .inl h1
  · rcases PT.get_set _ _ _ _ _ h with h1 | ⟨_, h⟩
    · exact .inr (.inl h1)
    · rcases PT.get_set _ _ _ _ _ h with h1 | ⟨_, h⟩
      · exact .inr (.inr (.inl h1))
      · exact .inr (.inr (.inr h))
def Run (rd : Nat) : Prop := (xcallH Tryz.prog (hookN 3 gl [ent rd]) 100000 ⟨vs, pc0, [], 3⟩ 7 [in0 rd, .ptr 3 0] mem).allB (isRet (out0 rd)) = true

/-- a hart that has come so far -/
def xsC (s : Value) : Nat → Nat → List Value
  | _, 0 => []
  | rd, k + 1 => (match Nat.beq rd 0 with
    | true => s
    | false => .int .u32 0) :: xsC s (match rd with
    | 0 => 99
    | r + 1 => r) k
abbrev zC : Value := .int .u32 0
def hartC (s cy pc : Int) (rd : Nat) : List Value := [zC, zC, zC, zC, zC, zC, zC, zC, zC, zC, zC, zC, zC, zC, zC, zC, .int .u64 cy, .int .i64 3, .int .u32 pc] ++ (xsC (.int .u32 s) rd 32 ++ [zC, .bool false, .bool false])
theorem den_xs {ρ : Nat → Int} {σ : List (Nat × Nat)} {s : V} {c : Value} (h : den ρ σ s = some c) : ∀ (k rd : Nat), denL ρ σ (xsV s rd k) = some (xsC c rd k)
  | 0, _ => denL_nil
  | k + 1, rd => by
    refine denL_cons ?_ (den_xs h k _)
    cases Nat.beq rd 0 with
    | true => exact h
    | false => rfl
theorem den_hart {ρ : Nat → Int} {σ : List (Nat × Nat)} (s cy pc : E) (rd : Nat) : den ρ σ (hartV s cy pc rd) = some (.agg (hartC (s.val ρ) (cy.val ρ) (pc.val ρ) rd).toArray) := by
  have h1 : denL ρ σ [zV, zV, zV, zV, zV, zV, zV, zV, zV, zV, zV, zV, zV, zV, zV, zV, .int .u64 (.d cy), .int .i64 (.s 3), .int .u32 (.d pc)] = some [zC, zC, zC, zC, zC, zC, zC, zC, zC, zC, zC, zC, zC, zC, zC, zC, .int .u64 (cy.val ρ), .int .i64 3, .int .u32 (pc.val ρ)] := rfl
  have h2 : denL ρ σ [zV, .bool (.s false), .bool (.s false)] = some [zC, .bool false, .bool false] := rfl
  have h3 := denL_append h1 (denL_append (den_xs (show den ρ σ (.int .u32 (.d s)) = some (.int .u32 (s.val ρ)) from rfl) 32 rd) h2)
  simp only [den]
  rw [h3]
  rfl
abbrev sg (gb gr gw cap : Nat) : List (Nat × Nat) := sigG 3 ++ [(gb, 0), (gr, 0), (gw, cap)]
theorem sg_len (gb gr gw cap : Nat) : (sg gb gr gw cap).length = 6 := rfl
theorem RM_hart {ρ : Nat → Int} {W : World} {gb gr gw cap n : Nat} (h : GlobsAre W 3 gl) (hb : At W gb [.pointer (some ⟨gr, 0, none⟩), .slice none 0 0] 46) (hr : At W gr [.int .u32 4096, .slice (some ⟨gw, 0, none⟩) n cap] 28)
    (hw : ∃ cur t fr, W.heap[gw]? = some (.cells cur t fr) ∧ ∀ i, i < n → cur[i]? = some (.int .u32 (IntKind.u32.wrap (ρ (arrIdx 0 i))))) (hn : ρ 2 = n) : RM ρ [] W (sg gb gr gw cap) mem W := by
  have h0 := RM.globs ρ h
  have hd3 : denL ρ (sg gb gr gw cap) [.ptr 4 0, .nils] = some [.pointer (some ⟨gr, 0, none⟩), .slice none 0 0] := rfl
  have hd4 : denL ρ (sg gb gr gw cap) [.int .u32 (.s 4096), .sl 5 (.c 0) (.v 2)] = some [.int .u32 4096, .slice (some ⟨gw, 0, none⟩) (ρ 2).toNat cap] := rfl
  rw [hn, Int.toNat_natCast] at hd4
  have ro : ∀ i k, mem.blks.get i = some k → k.ro = true := by
    intro i k hk
    rcases mem_get hk with ⟨_, rfl⟩ | ⟨_, rfl⟩ | ⟨_, rfl⟩ | hk
    · rfl
    · rfl
    · rfl
    · obtain ⟨y, _, _, rfl⟩ := gTab_get _ i k hk
      rfl
  refine ⟨Fr.refl [] W, rfl, ?_, ?_, ?_⟩
  · intro i k hk
    rcases mem_get hk with ⟨rfl, rfl⟩ | ⟨rfl, rfl⟩ | ⟨rfl, rfl⟩ | hk
    · obtain ⟨cur, t, fr, h1, h2⟩ := hw
      refine ⟨gw, cap, rfl, cur, t, fr, h1, fun i j kd a hi hj => ?_⟩
      have hj0 : j = 0 := by have := (List.getElem?_eq_some_iff.1 hj).1; simpa using this
      subst hj0
      simp only [List.getElem?_cons_zero, Option.some.injEq, Prod.mk.injEq] at hj
      obtain ⟨rfl, rfl⟩ := hj
      have hi' : i < (ρ 2).toNat := hi
      have := h2 i (by omega)
      simpa [E.val] using this
    · refine ⟨gr, 0, rfl, _, _, hr, ⟨by simp, fun i v hi hv => ?_⟩, rfl⟩
      obtain ⟨y, e1, e2⟩ := denL_nth hd4 (PT.get_ofL _ _ _ _ hv)
      exact ⟨y, e2, by simpa using e1⟩
    · refine ⟨gb, 0, rfl, _, _, hb, ⟨by simp, fun i v hi hv => ?_⟩, rfl⟩
      obtain ⟨y, e1, e2⟩ := denL_nth hd3 (PT.get_ofL _ _ _ _ hv)
      exact ⟨y, e2, by simpa using e1⟩
    · obtain ⟨b', c', h1, h2⟩ := h0.blk i k hk
      exact ⟨b', c', get_pre h1, holds_pre h2⟩
  · intro i b c hl hs
    have hl : 6 ≤ i := hl
    rw [List.getElem?_eq_none (by rw [sg_len]; exact hl)] at hs; cases hs
  · intro i j k m hk hm _ _ _ hro
    rw [ro i k hk, ro j m hm] at hro
    cases hro

theorem step_calls {rd : Nat} (hr1 : 1 ≤ rd) (hr2 : rd ≤ 31) (hrun : Run rd) {W : World} {gb gr gw cap n i : Nat} {ws : Nat → Int} {S imm : Int} (hS : 0 ≤ S ∧ S < 4294967296) (hin : i < n) (hn : n ≤ 60) (him : 0 ≤ imm ∧ imm < 4096) (hws : ws i = wd imm rd) (hG : GlobsAre W 3 gl)
    (hb : At W gb [.pointer (some ⟨gr, 0, none⟩), .slice none 0 0] 46) (hr : At W gr [.int .u32 4096, .slice (some ⟨gw, 0, none⟩) n cap] 28) (hw : ∃ cur t fr, W.heap[gw]? = some (.cells cur t fr) ∧ ∀ i, i < n → cur[i]? = some (.int .u32 (IntKind.u32.wrap (ws i)))) :
    Calls Tryz.prog 7 #[.agg (hartC S i (4096 + 4 * i) rd).toArray, .pointer (some ⟨gb, 0, none⟩)] W fun e w' => e = .returned (.agg (hartC ((S + sx imm) % 4294967296) ((i + 1 : Nat) : Int) (4096 + 4 * ((i + 1 : Nat) : Int)) rd).toArray) ∧ Below W.heap.size W w' := by
  have hsx := sx_range him
  obtain ⟨ρ, hρ⟩ : ∃ ρ : Nat → Int, ρ = rowρ [S, i, n, sx imm] 0 (fun _ j => ws j) := ⟨_, rfl⟩
  have r0 : ρ 0 = S := by rw [hρ]; rfl
  have r1 : ρ 1 = i := by rw [hρ]; rfl
  have r2 : ρ 2 = n := by rw [hρ]; rfl
  have r3 : ρ 3 = sx imm := by rw [hρ]; rfl
  have ra : ∀ j, ρ (arrIdx 0 j) = ws j := fun j => by rw [hρ]; exact rowρ_at (by decide)
  have hg : Gok ρ ⟨vs, pc0, [], 3⟩ := by
    refine ⟨fun k lo hi hk => ?_, fun q t hm => ?_⟩
    · have hk' : k < 4 := nthI_lt hk
      have hin4 : inAll [S, (i : Int), (n : Int), sx imm] vs := ⟨⟨hS.1, by omega⟩, ⟨by omega, by omega⟩, ⟨by omega, by omega⟩, ⟨hsx.1, by omega⟩, trivial⟩
      have := (gok_of hin4 3).vs k lo hi hk
      rw [hρ, rowρ_lt (by omega)]
      exact this
    · simp only [pc0, List.mem_cons, List.not_mem_nil, or_false, Prod.mk.injEq] at hm
      obtain ⟨rfl, rfl⟩ := hm
      simp only [B.val, E.val, r1, r2, decide_eq_true_eq]
      omega
  have hE : ∀ h ∈ [ent rd], EntryOk Tryz.prog 3 gl ρ h := by
    intro h hh
    simp only [List.mem_cons, List.not_mem_nil, or_false] at hh
    subst hh
    have hx : den ρ [] (ent rd).v = some (.tuple #[.agg #[.int .i64 19, .int .i64 rd, .int .i64 rd, .int .i64 0, .int .u32 (ρ 3)], .bool true]) := rfl
    refine ⟨rfl, _, hx, fun xs hxs w _ => ?_⟩
    have ha : denL ρ [] [.int .u32 (.d (.ld .u32 0 (.v 1)))] = some [.int .u32 (IntKind.u32.wrap (ρ (arrIdx 0 (ρ 1).toNat)))] := rfl
    have hxs : denL ρ [] [.int .u32 (.d (.ld .u32 0 (.v 1)))] = some xs := hxs
    rw [ha] at hxs
    cases hxs
    rw [r1, Int.toNat_natCast, ra, hws, IntKind.wrap_u32, Int.emod_eq_of_lt (wd_range him (by omega)).1 (wd_range him (by omega)).2, r3]
    exact dec_calls him (by omega) w
  have hM := RM_hart (ρ := ρ) (n := n) hG hb hr (by obtain ⟨cur, t, fr, h1, h2⟩ := hw; exact ⟨cur, t, fr, h1, fun j hj => by rw [ra]; exact h2 j hj⟩) r2
  have hargs : denL ρ (sg gb gr gw cap) [in0 rd, .ptr 3 0] = some [.agg (hartC S i (4096 + 4 * i) rd).toArray, .pointer (some ⟨gb, 0, none⟩)] := by
    have h1 := den_hart (ρ := ρ) (σ := sg gb gr gw cap) (.v 0) (.v 1) pcE rd
    simp only [E.val, EO.val, r0, r1] at h1
    exact denL_cons h1 (denL_cons (show den ρ (sg gb gr gw cap) (.ptr 3 0) = some (.pointer (some ⟨gb, 0, none⟩)) from rfl) denL_nil)
  refine (all_okH (by kernel_rfl) (hookN_ok hE) 100000).1 _ 7 [in0 rd, .ptr 3 0] mem _ [] W (sg gb gr gw cap) W _ hg (fun k hk => ⟨0, get_pre (sigG_get hk)⟩) hM hargs (T.all_mono ?_ (T.all_of_allB hrun))
  rintro ⟨e, m⟩ he τ w' hM'
  cases e with
  | pan u => cases he
  | ret u =>
    intro y hy
    have hu := vbeq_eq _ _ he
    subst hu
    have h1 := den_hart (ρ := ρ) (σ := sg gb gr gw cap ++ τ) (.wrap .u32 (.bin .add .u32 (.v 0) (.v 3))) (.bin .add .u64 (.v 1) (.c 1)) (.bin .add .u32 pcE (.c 4)) rd
    rw [h1] at hy
    cases hy
    simp only [E.val, EO.val, r0, r1, r3, IntKind.wrap_u32]
    refine ⟨?_, hM'.fr.below⟩
    have e1 : (4096 + 4 * (i : Int) + 4) = 4096 + 4 * ((i + 1 : Nat) : Int) := by omega
    have e2 : ((i : Int) + 1) = ((i + 1 : Nat) : Int) := by omega
    rw [e1, e2]
end hartRow
end Go.Proofs.YtkljleenmmeneaaGreatDoor
