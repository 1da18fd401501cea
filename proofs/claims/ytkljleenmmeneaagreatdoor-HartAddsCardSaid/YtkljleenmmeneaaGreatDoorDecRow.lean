/- What an adding word says. -/
import Derived.Test.YtkljleenmmeneaaGreatDoorHook
import Derived.Test.YtkljleenmmeneaaGreatDoorAddRow
namespace Go.Proofs.YtkljleenmmeneaaGreatDoor
open Go.RowKit
set_option maxHeartbeats 4000000

namespace decRow
open Sy
abbrev W : E := .bin .or .u32 (.bin .or .u32 (.bin .or .u32 (.bin .shl .u32 (.v 0) (.c 20)) (.bin .shl .u32 (.v 1) (.c 15))) (.bin .shl .u32 (.v 1) (.c 7))) (.c 19)
abbrev rdE : E := .bin .and .u64 (.bin .shr .u64 W (.c 7)) (.c 31)
abbrev rsE : E := .bin .and .u64 (.bin .shr .u64 W (.c 15)) (.c 31)
abbrev imE : E := .wrap .u32 (.bin .shr .i32 (.wrap .i32 (.bin .shl .u32 (.bin .shr .u64 W (.c 20)) (.c 20))) (.c 20))
abbrev decE : HE := ⟨17, false, [.int .u32 (.d W)], .tup [.agg [.int .i64 (.s 19), .int .i64 (.d rdE), .int .i64 (.d rsE), .int .i64 (.s 0), .int .u32 (.d imE)], .bool (.s true)]⟩
theorem dec {ng : Nat} {gl : List (Nat × IntKind × List Int)} (ρ : Nat → Int) (hg : Gok ρ ⟨[(0, 4095), (1, 31)], [], [], 0⟩) : EntryOk Tryz.prog ng gl ρ decE := he_run0 (by kernel_rfl) 100000 (vs := [(0, 4095), (1, 31)]) (pc := []) hg rfl rfl (by kernel_rfl)

theorem shl_val {x : Int} {n : Nat} (hn : n ≤ 32) (h0 : 0 ≤ x) (h : x * 2 ^ n < 4294967296) : bShl .u32 x (n : Int) = x * 2 ^ n := by
  have h1 : (0 : Int) ≤ x * 2 ^ n := Int.mul_nonneg h0 (Int.le_of_lt (Int.pow_pos (by omega)))
  unfold bShl
  rw [Int.toNat_natCast, show IntKind.u32.bits = 32 from rfl, Nat.min_eq_left hn, IntKind.wrap_u32]
  omega
theorem or_bits (x y : Int) : bOr .u32 x y = bits .or .u32 x y := rfl
theorem and_bits (x y : Int) : bAnd .u64 x y = bits .and .u64 x y := rfl
section
variable {ρ : Nat → Int} {imm rd : Int}
set_option maxRecDepth 100000 in
theorem W_val (h0 : ρ 0 = imm) (h1 : ρ 1 = rd) (r0 : 0 ≤ imm ∧ imm < 4096) (r1 : 0 ≤ rd ∧ rd < 32) : W.val ρ = wd imm rd := by
  show bOr .u32 (bOr .u32 (bOr .u32 (bShl .u32 (ρ 0) ((20 : Nat) : Int)) (bShl .u32 (ρ 1) ((15 : Nat) : Int))) (bShl .u32 (ρ 1) ((7 : Nat) : Int))) 19 = _
  rw [h0, h1, shl_val (by omega) r0.1 (by omega), shl_val (by omega) r1.1 (by omega), shl_val (by omega) r1.1 (by omega), or_bits, or_bits, or_bits]
  exact wd_or r0 r1
set_option maxRecDepth 100000 in
theorem low5 {x : Int} (h : 0 ≤ x ∧ x < 4294967296) : bAnd .u64 x 31 = x % 32 := by
  obtain ⟨n, rfl⟩ := Int.eq_ofNat_of_zero_le h.1
  have := u64_and_nat n 31 (by omega) (by omega)
  rw [and_bits]
  refine Eq.trans this ?_
  rw [show (31 : Nat) = 2 ^ 5 - 1 from rfl, Nat.and_two_pow_sub_one_eq_mod]
  simp
set_option maxRecDepth 100000 in
theorem rd_val (h0 : ρ 0 = imm) (h1 : ρ 1 = rd) (r0 : 0 ≤ imm ∧ imm < 4096) (r1 : 0 ≤ rd ∧ rd < 32) : rdE.val ρ = rd := by
  show bAnd .u64 ((W.val ρ).fdiv (2 ^ 7)) 31 = rd
  rw [W_val h0 h1 r0 r1, Int.fdiv_eq_ediv_of_nonneg _ (by decide)]
  have hw := wd_range r0 r1
  rw [low5 (by omega)]
  unfold wd
  omega
set_option maxRecDepth 100000 in
theorem rs_val (h0 : ρ 0 = imm) (h1 : ρ 1 = rd) (r0 : 0 ≤ imm ∧ imm < 4096) (r1 : 0 ≤ rd ∧ rd < 32) : rsE.val ρ = rd := by
  show bAnd .u64 ((W.val ρ).fdiv (2 ^ 15)) 31 = rd
  rw [W_val h0 h1 r0 r1, Int.fdiv_eq_ediv_of_nonneg _ (by decide), show (2 : Int) ^ 15 = 32768 from by decide]
  have hw := wd_range r0 r1
  rw [low5 (by omega)]
  have hq : wd imm rd / 32768 = imm * 32 + rd := by unfold wd; omega
  rw [hq]
  omega
set_option maxRecDepth 100000 in
theorem im_val (h0 : ρ 0 = imm) (h1 : ρ 1 = rd) (r0 : 0 ≤ imm ∧ imm < 4096) (r1 : 0 ≤ rd ∧ rd < 32) : imE.val ρ = sx imm := by
  show IntKind.u32.wrap ((IntKind.i32.wrap (bShl .u32 ((W.val ρ).fdiv (2 ^ 20)) ((20 : Nat) : Int))).fdiv (2 ^ 20)) = sx imm
  have hi : (wd imm rd).fdiv (2 ^ 20) = imm := by
    rw [Int.fdiv_eq_ediv_of_nonneg _ (by decide), show (2 : Int) ^ 20 = 1048576 from by decide]
    unfold wd; omega
  rw [W_val h0 h1 r0 r1, hi, shl_val (by omega) r0.1 (by omega), Int.fdiv_eq_ediv_of_nonneg _ (by decide), IntKind.wrap_u32, IntKind.wrap_i32, show (2 : Int) ^ 20 = 1048576 from by decide]
  unfold sx
  split <;> omega
end
theorem dec_calls {imm rd : Int} (r0 : 0 ≤ imm ∧ imm < 4096) (r1 : 1 ≤ rd ∧ rd < 32) (w : World) : Calls Tryz.prog 17 #[.int .u32 (wd imm rd)] w fun e w' => e = .returned (.tuple #[.agg #[.int .i64 19, .int .i64 rd, .int .i64 rd, .int .i64 0, .int .u32 (sx imm)], .bool true]) ∧ Fr [] w w' := by
  obtain ⟨ρ, hρ⟩ : ∃ ρ : Nat → Int, ρ = fun i => [imm, rd].getD i 0 := ⟨_, rfl⟩
  have h0 : ρ 0 = imm := by rw [hρ]; rfl
  have h1 : ρ 1 = rd := by rw [hρ]; rfl
  have hg : Gok ρ ⟨[(0, 4095), (1, 31)], [], [], 0⟩ := by
    rw [hρ]
    have hin : inAll [imm, rd] [(0, 4095), (1, 31)] := ⟨⟨r0.1, by omega⟩, ⟨by omega, by omega⟩, trivial⟩
    exact gok_of hin 0
  obtain ⟨_, x, hx, hc⟩ := dec (ng := 0) (gl := []) ρ hg
  have h := hc [.int .u32 (wd imm rd)] (by
    have e : den ρ [] (.int .u32 (.d W)) = some (.int .u32 (W.val ρ)) := rfl
    rw [W_val h0 h1 r0 (by omega)] at e
    exact denL_cons e denL_nil) w (fun h => by cases h)
  refine h.mono ?_
  rintro e w' ⟨rfl, hf⟩
  refine ⟨?_, hf⟩
  have e : den ρ [] decE.v = some (.tuple #[.agg #[.int .i64 19, .int .i64 (rdE.val ρ), .int .i64 (rsE.val ρ), .int .i64 0, .int .u32 (imE.val ρ)], .bool true]) := rfl
  rw [rd_val h0 h1 r0 (by omega), rs_val h0 h1 r0 (by omega), im_val h0 h1 r0 (by omega)] at e
  have h2 : some x = some _ := hx.symm.trans e
  cases h2
  rfl
end decRow
end Go.Proofs.YtkljleenmmeneaaGreatDoor
