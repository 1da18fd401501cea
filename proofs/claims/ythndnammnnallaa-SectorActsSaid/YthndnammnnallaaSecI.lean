/- Walks of the reference's device: a command. -/
import Derived.Test.YthndnammnnallaaSecH
namespace Go.Proofs.Ythndnammnnallaa
open Go.RowKit
set_option maxHeartbeats 4000000

/-- the reference's device: its cells -/
def rc (F M E L : Int) (B : List Int) (p : Nat) (sv : Value) : List Value := [.int .u32 F, .int .u32 M, .int .u32 E, .int .u32 L] ++ (B.map uv ++ [.int .i64 p, sv])
theorem rc_len {F M E L : Int} {B : List Int} {p : Nat} {sv : Value} (h : B.length = 16) : (rc F M E L B p sv).length = 22 := by simp [rc, h]
theorem rc_buf {F M E L : Int} {B : List Int} {p : Nat} {sv : Value} {i : Nat} (h : i < B.length) : (rc F M E L B p sv)[4 + i]? = some (.int .u32 (B[i]?.getD 0)) := by
  unfold rc
  rw [List.getElem?_append_right (by simp)]
  simp only [List.length_cons, List.length_nil, Nat.reduceAdd, Nat.add_sub_cancel_left]
  rw [List.getElem?_append_left (by simpa using h), List.getElem?_map, List.getElem?_eq_getElem h]
  rfl
theorem rc_place {F M E L : Int} {B : List Int} {p : Nat} {sv : Value} (h : B.length = 16) : (rc F M E L B p sv)[20]? = some (.int .i64 p) := by
  unfold rc
  rw [List.getElem?_append_right (by simp)]
  simp only [List.length_cons, List.length_nil, Nat.reduceAdd, Nat.reduceSub]
  rw [List.getElem?_append_right (by simp [h])]
  simp [h]
theorem rc_disk {F M E L : Int} {B : List Int} {p : Nat} {sv : Value} (h : B.length = 16) : (rc F M E L B p sv)[21]? = some sv := by
  unfold rc
  rw [List.getElem?_append_right (by simp)]
  simp only [List.length_cons, List.length_nil, Nat.reduceAdd, Nat.reduceSub]
  rw [List.getElem?_append_right (by simp [h])]
  simp [h]
theorem rc_setB {F M E L v : Int} {B : List Int} {p : Nat} {sv : Value} {i : Nat} (h : i < B.length) : (rc F M E L B p sv).set (4 + i) (.int .u32 v) = rc F M E L (B.set i v) p sv := by
  unfold rc
  rw [List.set_append_right _ _ (by simp)]
  simp only [List.length_cons, List.length_nil, Nat.reduceAdd, Nat.add_sub_cancel_left]
  rw [List.set_append_left _ _ (by simpa using h), List.map_set]
  rfl
theorem rc_set20 {F M E L : Int} {B : List Int} {p q : Nat} {sv : Value} (h : B.length = 16) : (rc F M E L B p sv).set 20 (.int .i64 q) = rc F M E L B q sv := by
  unfold rc
  rw [List.set_append_right _ _ (by simp), List.set_append_right _ _ (by simp [h])]
  simp [h]
theorem rc_set21 {F M E L : Int} {B : List Int} {p : Nat} {sv sv' : Value} (h : B.length = 16) : (rc F M E L B p sv).set 21 sv' = rc F M E L B p sv' := by
  unfold rc
  rw [List.set_append_right _ _ (by simp), List.set_append_right _ _ (by simp [h])]
  simp [h]
theorem rc_ones {F M E L : Int} {B : List Int} {p : Nat} {sv : Value} (hs : sv.oneCell' = true) : ∀ v ∈ rc F M E L B p sv, v.oneCell' = true := by
  intro v hv
  unfold rc at hv
  rcases List.mem_append.1 hv with hv | hv
  · simp at hv
    rcases hv with rfl | rfl | rfl | rfl <;> rfl
  · rcases List.mem_append.1 hv with hv | hv
    · exact uv_ones _ v hv
    · simp at hv
      rcases hv with rfl | rfl
      · rfl
      · exact hs
theorem Dk.one {w : World} {Bb n : Nat} {sv : Value} {D : List Int} (h : Dk w Bb sv n D) : sv.cells = #[sv] ∧ sv.oneCell' = true := by
  obtain ⟨b, cap, rfl, _⟩ := h
  exact ⟨rfl, rfl⟩
/-- no device yet -/
def r0 : List Value := rc 0 0 0 0 (List.replicate 16 0) 0 (.slice none 0 0)
theorem r0_len : r0.length = 22 := rfl
theorem zero_dev (w : World) : (zeroValue 34).run Try.prog w = .ok (.agg r0.toArray) w := by
  have h : (Try.prog.info? 34).bind (·.zero) = some (.agg r0.toArray) := by kernel_rfl
  unfold zeroValue typeInfo
  cases hq : Try.prog.info? 34 with
  | none => rw [hq] at h; cases h
  | some i =>
    rw [hq] at h
    simp only [Option.bind_some] at h
    simp [hq, h]
theorem ld_all {c : List Value} {n : Nat} (h : c.length = n) : (c.drop 0).take n = c := by rw [List.drop_zero, List.take_of_length_le (by omega)]
theorem st_all {c z : List Value} {n : Nat} (h : z.length = n) : z.take 0 ++ c ++ z.drop (0 + n) = c := by rw [List.take_zero, List.nil_append, List.drop_eq_nil_of_le (by omega), List.append_nil]

/-- the reference's device in a block, and its sectors -/
structure Rs (w : World) (g Bb n : Nat) (F M E L : Int) (B : List Int) (p : Nat) (sv : Value) (D : List Int) : Prop where
  dev : At w g (rc F M E L B p sv) 34
  dk : Dk w Bb sv n D
  bl : B.length = 16
theorem Rs.upd {w w' : World} {g Bb n : Nat} {F M E L F' M' E' L' : Int} {B B' : List Int} {p p' : Nat} {sv : Value} {D : List Int} (h : Rs w g Bb n F M E L B p sv D) (hs : Same g w w') (hd : At w' g (rc F' M' E' L' B' p' sv) 34) (hb : B'.length = 16) : Rs w' g Bb n F' M' E' L' B' p' sv D :=
  ⟨hd, h.dk.same h.dev (by decide) hs, hb⟩
theorem Rs.drewN {w : World} {g Bb n : Nat} {F M E L : Int} {B : List Int} {p : Nat} {sv : Value} {D : List Int} (h : Rs w g Bb n F M E L B p sv D) (k : Nat) : Rs (w.drewN k) g Bb n F M E L B p sv D :=
  ⟨h.dev.drewN k, h.dk.below ⟨rfl, rfl, rfl, Nat.le_refl _, fun _ _ => rfl⟩, h.bl⟩
/-- a row of words, some of it copied -/
def cpS (B : List Int) (i : Nat) (s : List Int) : Nat → List Int
  | 0 => B
  | k + 1 => (cpS B i s k).set (4 * i + k) (s[k]?.getD 0)
theorem cpS_len (B : List Int) (i : Nat) (s : List Int) : ∀ k, (cpS B i s k).length = B.length
  | 0 => rfl
  | k + 1 => by rw [cpS, List.length_set, cpS_len B i s k]
theorem cpS_four {B s : List Int} {i : Nat} (h : B.length = 16) (hi : i < 4) (hs : s.length = 4) : cpS B i s 4 = secPut B i s := by
  match B, h, s, hs with
  | [b0, b1, b2, b3, b4, b5, b6, b7, b8, b9, b10, b11, b12, b13, b14, b15], _, [s0, s1, s2, s3], _ =>
    obtain rfl | rfl | rfl | rfl : i = 0 ∨ i = 1 ∨ i = 2 ∨ i = 3 := by omega
    all_goals rfl
theorem sec_four {B : List Int} {i : Nat} (h : B.length = 16) (hi : i < 4) : sec B i = [B[4 * i]?.getD 0, B[4 * i + 1]?.getD 0, B[4 * i + 2]?.getD 0, B[4 * i + 3]?.getD 0] := by
  match B, h with
  | [b0, b1, b2, b3, b4, b5, b6, b7, b8, b9, b10, b11, b12, b13, b14, b15], _ =>
    obtain rfl | rfl | rfl | rfl : i = 0 ∨ i = 1 ∨ i = 2 ∨ i = 3 := by omega
    all_goals rfl
theorem sec_get {D : List Int} {i k : Nat} (hk : k < 4) : (sec D i)[k]? = D[i * 4 + k]? := by
  unfold sec
  rw [List.getElem?_take, if_pos hk, List.getElem?_drop]
theorem oneB_len {v : Int} {B D : List Int} {n i k : Nat} (h : B.length = 16) (hD : D.length = 4 * n) (hi : i < n) (hk : k < 4) : (oneB v B D i k).length = 16 := by
  unfold oneB
  split
  · exact secPut_len (n := 4) h hk (sec_len hD hi)
  · exact h
theorem oneD_len {v : Int} {B D : List Int} {n i k : Nat} (h : B.length = 16) (hD : D.length = 4 * n) (hi : i < n) (hk : k < 4) : (oneD v B D i k).length = 4 * n := by
  unfold oneD
  split
  · exact secPut_len hD hi (sec_len (n := 4) h hk)
  · split
    · exact secPut_len hD hi rfl
    · exact hD
end Go.Proofs.Ythndnammnnallaa
