/- Walks of a sector device: what its registers tell. -/
import Derived.Test.YthndnammnnallaaSecF
namespace Go.Proofs.Ythndnammnnallaa
open Go.RowKit
set_option maxHeartbeats 4000000

set_option maxRecDepth 100000 in
theorem get_any {gd gm gl n : Nat} {s : Sx} {reg : Int} (w : World) (h : Ds w gd gm gl n s) :
    Calls Try.prog 10 #[.pointer (some ⟨gd, 0, none⟩), .int .i64 reg] w fun e w' => e = .returned (.tuple #[.int .u32 (getV n s reg), .int .i64 (setE reg)]) ∧ Ds w' gd gm gl n (getS s reg) ∧ Ch [gd, gm, gl] w w' := by
  obtain ⟨F, M, E, ln, B, p, D⟩ := s
  have h : Dv w gd gm gl n F M E ln B p D := h
  have H := Lib.hid h
  have Hg := Lib.hid (good_any w h.dev)
  clear h
  by_cases h5 : reg = 5
  · subst h5
    have Hw := Lib.hid (window_any H.out.bl H.out.pl w H.out.dev)
    show Calls _ _ _ w fun e w' => e = .returned (.tuple #[.int .u32 (B[p]?.getD 0), .int .i64 0]) ∧ Dv w' gd gm gl n F M E ln B ((p + 1) % 16) D ∧ Ch [gd, gm, gl] w w'
    go_enter Try.func10, Try.ntmps10
    go_wp2_with (first
      | (go_at_call 13; refine Hg.out.mono ?_; rintro e w1 ⟨rfl, rfl⟩)
      | (go_at_call 15; refine Hw.out.mono ?_; rintro e w2 ⟨rfl, ha2, hs2⟩
         have c5 : w2.cell? ⟨gd, 5 + p, none⟩ = some (.int .u32 (B[p]?.getD 0)) := (ha2.cell _).trans (dc_buf (by rw [H.out.bl]; exact H.out.pl))
         have HA2 := Lib.hid ha2; have HS2 := Lib.hid hs2; clear ha2 hs2)
      | fail)
    go_ret2
    exact ⟨rfl, H.out.upd HS2.out HA2.out H.out.bl (Nat.mod_lt _ (by decide)) H.out.fr H.out.mr, Ch.of_same HS2.out (by simp)⟩
  · have hG : getS ⟨F, M, E, ln, B, p, D⟩ reg = ⟨F, M, E, ln, B, p, D⟩ := by unfold getS; rw [if_neg h5]
    rw [hG]
    have b5 : (reg == 5) = false := by rw [beq_eq_false_iff_ne]; exact h5
    have c0 : w.cell? ⟨gd, 0, none⟩ = some (.iface 24 (.pointer (some ⟨gm, 0, none⟩))) := H.out.dev.cell 0
    have c1 : w.cell? ⟨gd, 1, none⟩ = some (.int .u32 F) := H.out.dev.cell 1
    have c2 : w.cell? ⟨gd, 2, none⟩ = some (.int .u32 M) := H.out.dev.cell 2
    have c3 : w.cell? ⟨gd, 3, none⟩ = some (.int .u32 E) := H.out.dev.cell 3
    have c4 : w.cell? ⟨gd, 4, none⟩ = some (.bool ln) := H.out.dev.cell 4
    have hcases : reg = 0 ∨ reg = 1 ∨ reg = 2 ∨ reg = 3 ∨ reg = 4 ∨ reg = 6 ∨ reg = 7 ∨ (reg ≠ 0 ∧ reg ≠ 1 ∧ reg ≠ 2 ∧ reg ≠ 3 ∧ reg ≠ 4 ∧ reg ≠ 6 ∧ reg ≠ 7) := by omega
    rcases hcases with rfl | rfl | rfl | rfl | rfl | rfl | rfl | ⟨h0, h1, h2, h3, h4, h6, h7⟩
    · go_enter Try.func10, Try.ntmps10
      go_wp2_with (first | (go_at_call 13; refine Hg.out.mono ?_; rintro e w1 ⟨rfl, rfl⟩) | fail)
      go_ret2
      exact ⟨rfl, H.out, Ch.refl _ _⟩
    · go_enter Try.func10, Try.ntmps10
      go_wp2_with (first | (go_at_call 13; refine Hg.out.mono ?_; rintro e w1 ⟨rfl, rfl⟩) | fail)
      go_ret2
      exact ⟨rfl, H.out, Ch.refl _ _⟩
    · go_enter Try.func10, Try.ntmps10
      go_wp2_with (first | (go_at_call 13; refine Hg.out.mono ?_; rintro e w1 ⟨rfl, rfl⟩) | fail)
      go_ret2
      exact ⟨rfl, H.out, Ch.refl _ _⟩
    · by_cases hE : E = 0
      · have hbE : (E != 0) = false := by rw [bne_eq_false_iff_eq]; exact hE
        have HB := Lib.hid (bit_any false w)
        have hV : getV n ⟨F, M, E, ln, B, p, D⟩ 3 = 1 := by show (if E = 0 then (1 : Int) else 3) = 1; rw [if_pos hE]
        rw [hV]
        clear hE hV
        go_enter Try.func10, Try.ntmps10
        go_wp2_with (first
          | (go_at_call 13; refine Hg.out.mono ?_; rintro e w1 ⟨rfl, rfl⟩)
          | (go_at_call 16; refine HB.out.mono ?_; rintro e w1 ⟨rfl, rfl⟩)
          | fail)
        go_ret2
        exact ⟨rfl, H.out, Ch.refl _ _⟩
      · have hbE : (E != 0) = true := by rw [bne_iff_ne]; exact hE
        have HB := Lib.hid (bit_any true w)
        have hV : getV n ⟨F, M, E, ln, B, p, D⟩ 3 = 3 := by show (if E = 0 then (1 : Int) else 3) = 3; rw [if_neg hE]
        rw [hV]
        clear hE hV
        go_enter Try.func10, Try.ntmps10
        go_wp2_with (first
          | (go_at_call 13; refine Hg.out.mono ?_; rintro e w1 ⟨rfl, rfl⟩)
          | (go_at_call 16; refine HB.out.mono ?_; rintro e w1 ⟨rfl, rfl⟩)
          | fail)
        go_ret2
        exact ⟨rfl, H.out, Ch.refl _ _⟩
    · go_enter Try.func10, Try.ntmps10
      go_wp2_with (first | (go_at_call 13; refine Hg.out.mono ?_; rintro e w1 ⟨rfl, rfl⟩) | fail)
      go_ret2
      exact ⟨rfl, H.out, Ch.refl _ _⟩
    · have hmS := mOf_run (P := Try.prog) (t := 24) (name := "Sectors") (f := 37) (by kernel_rfl) Try.underlying24 (.pointer (some ⟨gm, 0, none⟩))
      have HS := Lib.hid (sectors_any w H.out.mm)
      have hn := H.out.nl
      have hw1 : (n : Int) % 4294967296 = n := by omega
      have hw2 : IntKind.u32.wrap (n : Int) = n := by rw [IntKind.wrap_u32]; omega
      go_enter Try.func10, Try.ntmps10
      go_wp2_with (first
        | (go_at_call 13; refine Hg.out.mono ?_; rintro e w1 ⟨rfl, rfl⟩)
        | (go_at_call 37; refine HS.out.mono ?_; rintro e w1 ⟨rfl, rfl⟩)
        | fail)
      go_ret2
      exact ⟨rfl, H.out, Ch.refl _ _⟩
    · cases ln
      all_goals
        go_enter Try.func10, Try.ntmps10
        go_wp2_with (first
          | (go_at_call 13; refine Hg.out.mono ?_; rintro e w1 ⟨rfl, rfl⟩)
          | (go_at_call 16; refine (bit_any _ _).mono ?_; rintro e w1 ⟨rfl, rfl⟩)
          | fail)
        go_ret2
        exact ⟨rfl, H.out, Ch.refl _ _⟩
    · have b0 : (reg == 0) = false := by rw [beq_eq_false_iff_ne]; exact h0
      have b1 : (reg == 1) = false := by rw [beq_eq_false_iff_ne]; exact h1
      have b2 : (reg == 2) = false := by rw [beq_eq_false_iff_ne]; exact h2
      have b3 : (reg == 3) = false := by rw [beq_eq_false_iff_ne]; exact h3
      have b4 : (reg == 4) = false := by rw [beq_eq_false_iff_ne]; exact h4
      have b6 : (reg == 6) = false := by rw [beq_eq_false_iff_ne]; exact h6
      have b7 : (reg == 7) = false := by rw [beq_eq_false_iff_ne]; exact h7
      have hE : setE reg = 3 := by unfold setE; rw [if_neg (by omega)]
      have hV : getV n ⟨F, M, E, ln, B, p, D⟩ reg = 0 := by unfold getV; rw [if_neg h1, if_neg h2, if_neg h3, if_neg h4, if_neg h5, if_neg h6, if_neg h7]
      rw [hE, hV]
      clear h0 h1 h2 h3 h4 h5 h6 h7 hG hE hV
      go_enter Try.func10, Try.ntmps10
      go_wp2_with (first | (go_at_call 13; refine Hg.out.mono ?_; rintro e w1 ⟨rfl, rfl⟩) | fail)
      go_ret2
      exact ⟨rfl, H.out, Ch.refl _ _⟩
end Go.Proofs.Ythndnammnnallaa
