/- Walks of a sector device: its registers. -/
import Derived.Test.YthndnammnnallaaSecE
namespace Go.Proofs.Ythndnammnnallaa
open Go.RowKit
set_option maxHeartbeats 4000000

/-- what a device has -/
structure Sx where
  F : Int
  M : Int
  E : Int
  ln : Bool
  B : List Int
  p : Nat
  D : List Int
def setE (reg : Int) : Int := if 0 ≤ reg ∧ reg ≤ 7 then 0 else 3
def setS (n : Nat) (s : Sx) (reg v : Int) : Sx :=
  if reg = 0 then ⟨s.F, s.M, cmdE s.F s.M n v, true, (cmdS s.F s.M n v s.B s.D).1, 0, (cmdS s.F s.M n v s.B s.D).2⟩
  else if reg = 1 then { s with F := v } else if reg = 2 then { s with M := v }
  else if reg = 5 then { s with B := s.B.set s.p v, p := (s.p + 1) % 16 } else if reg = 7 then { s with ln := false } else s
def getV (n : Nat) (s : Sx) (reg : Int) : Int :=
  if reg = 1 then s.F else if reg = 2 then s.M else if reg = 3 then (if s.E = 0 then 1 else 3) else if reg = 4 then s.E
  else if reg = 5 then s.B[s.p]?.getD 0 else if reg = 6 then n else if reg = 7 then (if s.ln then 1 else 0) else 0
def getS (s : Sx) (reg : Int) : Sx := if reg = 5 then { s with p := (s.p + 1) % 16 } else s
def Ds (w : World) (gd gm gl n : Nat) (s : Sx) : Prop := Dv w gd gm gl n s.F s.M s.E s.ln s.B s.p s.D
theorem dc_setB {gm : Nat} {F M E v : Int} {ln : Bool} {B : List Int} {p i : Nat} (h : i < B.length) : (dc gm F M E ln B p).set (5 + i) (.int .u32 v) = dc gm F M E ln (B.set i v) p := by
  unfold dc
  rw [List.set_append_right _ _ (by simp)]
  simp only [List.length_cons, List.length_nil, Nat.reduceAdd, Nat.add_sub_cancel_left]
  rw [List.set_append_left _ _ (by simpa using h), List.map_set]
  rfl
theorem Dv.upd {w w' : World} {gd gm gl n : Nat} {F M E F' M' E' : Int} {ln ln' : Bool} {B D B' : List Int} {p p' : Nat} (h : Dv w gd gm gl n F M E ln B p D) (hs : Same gd w w') (hd : At w' gd (dc gm F' M' E' ln' B' p') 47) (hb : B'.length = 16) (hp : p' < 16) (hf : 0 ≤ F' ∧ F' < 4294967296) (hm : 0 ≤ M' ∧ M' < 4294967296) : Dv w' gd gm gl n F' M' E' ln' B' p' D := by
  obtain ⟨n1, n2, n3⟩ := h.ne
  obtain ⟨lf, hmm⟩ := h.mm
  exact ⟨hd, ⟨lf, hs.at hmm n1.symm⟩, hs.at h.dsk n2.symm, hb, h.dl, hp, h.nl, hf, hm⟩
theorem Ch.of_same {g : Nat} {S : List Nat} {w w' : World} (h : Same g w w') (hg : g ∈ S) : Ch S w w' := ⟨h.os, h.tape, h.output, Nat.le_of_eq h.size.symm, fun k _ hk => h.other k (fun e => hk (e ▸ hg))⟩

set_option maxRecDepth 100000 in
theorem set_any {gd gm gl n : Nat} {s : Sx} {reg v : Int} (hv : 0 ≤ v ∧ v < 4294967296) (w : World) (h : Ds w gd gm gl n s) :
    Calls Try.prog 8 #[.pointer (some ⟨gd, 0, none⟩), .int .i64 reg, .int .u32 v] w fun e w' => e = .returned (.int .i64 (setE reg)) ∧ Ds w' gd gm gl n (setS n s reg v) ∧ Ch [gd, gm, gl] w w' := by
  obtain ⟨F, M, E, ln, B, p, D⟩ := s
  have h : Dv w gd gm gl n F M E ln B p D := h
  have H := Lib.hid h
  have Hg := Lib.hid (good_any w h.dev)
  have Hi1 : Hid ((Try.prog.info? 3).map (·.size) = some 1) := by unfold Hid; kernel_rfl
  have Hu1 : Hid ((Try.prog.info? 31).map (·.size) = some 1) := by unfold Hid; kernel_rfl
  have Hb1 : Hid ((Try.prog.info? 4).map (·.size) = some 1) := by unfold Hid; kernel_rfl
  have HV := Lib.hid hv
  clear h hv
  by_cases h0 : reg = 0
  · subst h0
    show Calls _ _ _ w fun e w' => e = .returned (.int .i64 0) ∧ Dv w' gd gm gl n F M (cmdE F M n v) true (cmdS F M n v B D).1 0 (cmdS F M n v B D).2 ∧ Ch [gd, gm, gl] w w'
    go_enter Try.func8, Try.ntmps8
    go_wp2_with (first
      | (go_at_call 13; refine Hg.out.mono ?_; rintro e w1 ⟨rfl, rfl⟩)
      | (refine st_cell (v := .int .i64 ((0 : Nat) : Int)) rfl rfl rfl rfl rfl H.out.dev Hi1.out (by rw [dc_len H.out.bl]; decide) rfl ?_; intro w2 hu2
         have HD2 : Hid (At w2 gd (dc gm F M E ln B 0) 47) := Lib.hid (by have h := hu2.to; rw [dc_set21 H.out.bl] at h; exact h)
         have HS2 := Lib.hid hu2.same; clear hu2)
      | (refine st_cell (v := .bool true) rfl rfl rfl rfl rfl HD2.out Hb1.out (by rw [dc_len H.out.bl]; decide) rfl ?_; intro w3 hu3
         have HD3 : Hid (Dv w3 gd gm gl n F M E true B 0 D) := Lib.hid (H.out.upd (HS2.out.trans hu3.same) hu3.to H.out.bl (by decide) H.out.fr H.out.mr)
         have HS3 := Lib.hid (HS2.out.trans hu3.same); clear hu3)
      | (go_at_call 14; refine (command_any HV.out _ HD3.out).mono ?_; rintro e w4 ⟨rfl, hd4, hc4⟩; have HD4 := Lib.hid hd4; have HC4 := Lib.hid hc4; clear hd4 hc4)
      | (refine st_cell (v := .int .u32 (cmdE F M n v)) rfl rfl rfl rfl rfl HD4.out.dev Hu1.out (by rw [dc_len HD4.out.bl]; decide) rfl ?_; intro w5 hu5; have HU5 := Lib.hid hu5; clear hu5)
      | fail)
    go_ret
    exact ⟨rfl, HD4.out.upd HU5.out.same HU5.out.to HD4.out.bl (by decide) H.out.fr H.out.mr, ((Ch.of_same HS3.out (by simp)).trans HC4.out).trans (Ch.of_same HU5.out.same (by simp))⟩
  · by_cases h1 : reg = 1
    · subst h1
      show Calls _ _ _ w fun e w' => e = .returned (.int .i64 0) ∧ Dv w' gd gm gl n v M E ln B p D ∧ Ch [gd, gm, gl] w w'
      go_enter Try.func8, Try.ntmps8
      go_wp2_with (first
        | (go_at_call 13; refine Hg.out.mono ?_; rintro e w1 ⟨rfl, rfl⟩)
        | (refine st_cell (v := .int .u32 v) rfl rfl rfl rfl rfl H.out.dev Hu1.out (by rw [dc_len H.out.bl]; decide) rfl ?_; intro w2 hu2; have HU2 := Lib.hid hu2; clear hu2)
        | fail)
      go_ret
      exact ⟨rfl, H.out.upd HU2.out.same HU2.out.to H.out.bl H.out.pl HV.out H.out.mr, Ch.of_same HU2.out.same (by simp)⟩
    · by_cases h2 : reg = 2
      · subst h2
        show Calls _ _ _ w fun e w' => e = .returned (.int .i64 0) ∧ Dv w' gd gm gl n F v E ln B p D ∧ Ch [gd, gm, gl] w w'
        go_enter Try.func8, Try.ntmps8
        go_wp2_with (first
          | (go_at_call 13; refine Hg.out.mono ?_; rintro e w1 ⟨rfl, rfl⟩)
          | (refine st_cell (v := .int .u32 v) rfl rfl rfl rfl rfl H.out.dev Hu1.out (by rw [dc_len H.out.bl]; decide) rfl ?_; intro w2 hu2; have HU2 := Lib.hid hu2; clear hu2)
          | fail)
        go_ret
        exact ⟨rfl, H.out.upd HU2.out.same HU2.out.to H.out.bl H.out.pl H.out.fr HV.out, Ch.of_same HU2.out.same (by simp)⟩
      · by_cases h7 : reg = 7
        · subst h7
          show Calls _ _ _ w fun e w' => e = .returned (.int .i64 0) ∧ Dv w' gd gm gl n F M E false B p D ∧ Ch [gd, gm, gl] w w'
          go_enter Try.func8, Try.ntmps8
          go_wp2_with (first
            | (go_at_call 13; refine Hg.out.mono ?_; rintro e w1 ⟨rfl, rfl⟩)
            | (refine st_cell (v := .bool false) rfl rfl rfl rfl rfl H.out.dev Hb1.out (by rw [dc_len H.out.bl]; decide) rfl ?_; intro w2 hu2; have HU2 := Lib.hid hu2; clear hu2)
            | fail)
          go_ret
          exact ⟨rfl, H.out.upd HU2.out.same HU2.out.to H.out.bl H.out.pl H.out.fr H.out.mr, Ch.of_same HU2.out.same (by simp)⟩
        · by_cases h5 : reg = 5
          · subst h5
            have Hw := Lib.hid (window_any H.out.bl H.out.pl w H.out.dev)
            show Calls _ _ _ w fun e w' => e = .returned (.int .i64 0) ∧ Dv w' gd gm gl n F M E ln (B.set p v) ((p + 1) % 16) D ∧ Ch [gd, gm, gl] w w'
            go_enter Try.func8, Try.ntmps8
            go_wp2_with (first
              | (go_at_call 13; refine Hg.out.mono ?_; rintro e w1 ⟨rfl, rfl⟩)
              | (go_at_call 15; refine Hw.out.mono ?_; rintro e w2 ⟨rfl, ha2, hs2⟩; have HA2 := Lib.hid ha2; have HS2 := Lib.hid hs2; clear ha2 hs2)
              | (refine st_cell (v := .int .u32 v) rfl rfl rfl rfl rfl HA2.out Hu1.out (by rw [dc_len H.out.bl]; have := H.out.pl; omega) rfl ?_; intro w3 hu3; have HU3 := Lib.hid hu3; clear hu3)
              | fail)
            go_ret
            have h3 := HU3.out.to
            rw [dc_setB (by rw [H.out.bl]; exact H.out.pl)] at h3
            exact ⟨rfl, H.out.upd (HS2.out.trans HU3.out.same) h3 (by rw [List.length_set]; exact H.out.bl) (Nat.mod_lt _ (by decide)) H.out.fr H.out.mr, Ch.of_same (HS2.out.trans HU3.out.same) (by simp)⟩
          · have hS : setS n ⟨F, M, E, ln, B, p, D⟩ reg v = ⟨F, M, E, ln, B, p, D⟩ := by unfold setS; rw [if_neg h0, if_neg h1, if_neg h2, if_neg h5, if_neg h7]
            rw [hS]
            have b0 : (reg == 0) = false := by rw [beq_eq_false_iff_ne]; exact h0
            have b1 : (reg == 1) = false := by rw [beq_eq_false_iff_ne]; exact h1
            have b2 : (reg == 2) = false := by rw [beq_eq_false_iff_ne]; exact h2
            have b5 : (reg == 5) = false := by rw [beq_eq_false_iff_ne]; exact h5
            have b7 : (reg == 7) = false := by rw [beq_eq_false_iff_ne]; exact h7
            have hcases : reg = 3 ∨ reg = 4 ∨ reg = 6 ∨ (reg ≠ 3 ∧ reg ≠ 4 ∧ reg ≠ 6) := by omega
            rcases hcases with rfl | rfl | rfl | ⟨h3, h4, h6⟩
            · go_enter Try.func8, Try.ntmps8
              go_wp2_with (first | (go_at_call 13; refine Hg.out.mono ?_; rintro e w1 ⟨rfl, rfl⟩) | fail)
              go_ret
              exact ⟨rfl, H.out, Ch.refl _ _⟩
            · go_enter Try.func8, Try.ntmps8
              go_wp2_with (first | (go_at_call 13; refine Hg.out.mono ?_; rintro e w1 ⟨rfl, rfl⟩) | fail)
              go_ret
              exact ⟨rfl, H.out, Ch.refl _ _⟩
            · go_enter Try.func8, Try.ntmps8
              go_wp2_with (first | (go_at_call 13; refine Hg.out.mono ?_; rintro e w1 ⟨rfl, rfl⟩) | fail)
              go_ret
              exact ⟨rfl, H.out, Ch.refl _ _⟩
            · have b3 : (reg == 3) = false := by rw [beq_eq_false_iff_ne]; exact h3
              have b4 : (reg == 4) = false := by rw [beq_eq_false_iff_ne]; exact h4
              have b6 : (reg == 6) = false := by rw [beq_eq_false_iff_ne]; exact h6
              have hE : setE reg = 3 := by unfold setE; rw [if_neg (by omega)]
              rw [hE]
              clear h0 h1 h2 h3 h4 h5 h6 h7 hS hE
              go_enter Try.func8, Try.ntmps8
              go_wp2_with (first | (go_at_call 13; refine Hg.out.mono ?_; rintro e w1 ⟨rfl, rfl⟩) | fail)
              go_ret
              exact ⟨rfl, H.out, Ch.refl _ _⟩
end Go.Proofs.Ythndnammnnallaa
