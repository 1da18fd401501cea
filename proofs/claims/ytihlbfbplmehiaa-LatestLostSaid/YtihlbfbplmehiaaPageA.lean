/- Walks of package page's leaves: what a function answers, and that memory stands as it was. -/
import Derived.Test.YtihlbfbplmehiaaChecked
import Derived.Test.YtihlbfbplmehiaaBase
namespace Go.Proofs.Ytihlbfbplmehiaa
open Go.RowKit
set_option maxHeartbeats 400000

def ones : Int := 4294967295

/-- a page -/
structure Pg where
  s : Int
  q : Int
  g : Bool
  a : Int
  b : Int
  c : Int
  d : Int
deriving DecidableEq

def Pg.val (p : Pg) : Value := .agg #[.int .u32 p.s, .int .u32 p.q, .bool p.g, .int .u32 p.a, .int .u32 p.b, .int .u32 p.c, .int .u32 p.d]
def u32 (x : Int) : Prop := 0 ≤ x ∧ x < 4294967296
def Pg.ok (p : Pg) : Prop := u32 p.s ∧ u32 p.q ∧ u32 p.a ∧ u32 p.b ∧ u32 p.c ∧ u32 p.d
def Pg.right (p : Pg) : Bool := decide (p.s < 512) && decide (1 ≤ p.q) && decide (p.q ≤ 2147483648) && (!p.g || decide (p.a = 0 ∧ p.b = 0 ∧ p.c = 0 ∧ p.d = 0))

def atP (a b : Int) : Int := if a < 0 ∨ 64 ≤ a ∨ b < 0 ∨ 8 ≤ b then -1 else a * 64 + 4 + b * 7

theorem at_any (a b : Int) (w : World) : Calls Try.prog 50 #[.int .i64 a, .int .i64 b] w fun e w' => e = .returned (.int .i64 (atP a b)) ∧ w = w' := by
  go_enter Try.func50, Try.ntmps50
  go_wp2
  all_goals go_ret
  all_goals refine ⟨ret_int ?_, rfl⟩
  all_goals (simp only [atP]; first | (rw [if_pos (by omega)]; done) | (rw [if_neg (by omega)]; done))

theorem lit_u32 {x : Int} (h : u32 x) : (Lit.int .u32 x).wf = true := by
  simp only [u32] at h; simp [Lit.wf, IntKind.min, IntKind.max, IntKind.signed, IntKind.bits]; omega

theorem data_eq {a b c d a' b' c' d' : Int} (ha : u32 a) (hb : u32 b) (hc : u32 c) (hd : u32 d) (ha' : u32 a') (hb' : u32 b') (hc' : u32 c') (hd' : u32 d') (w : World) :
    (Op.equalIn 10000 25 (.agg #[.int .u32 a, .int .u32 b, .int .u32 c, .int .u32 d]) (.agg #[.int .u32 a', .int .u32 b', .int .u32 c', .int .u32 d'])).run Try.prog w = .ok (decide (a = a' ∧ b = b' ∧ c = c' ∧ d = d')) w := by
  have h := eq_flat (P := Try.prog) (m := 2) (t := 25) (x := .agg #[.int .u32 a, .int .u32 b, .int .u32 c, .int .u32 d]) (y := .agg #[.int .u32 a', .int .u32 b', .int .u32 c', .int .u32 d'])
    (lx := [.int .u32 a, .int .u32 b, .int .u32 c, .int .u32 d]) (ly := [.int .u32 a', .int .u32 b', .int .u32 c', .int .u32 d']) (D := 2) (D' := 2) (by omega) (by kernel_rfl) (by kernel_rfl) (by kernel_rfl) ?_ ?_ (decide (a = a' ∧ b = b' ∧ c = c' ∧ d = d')) (by simp) w
  · exact h
  · simp [Program.keyLits, Try.underlying25, Try.underlying23, Value.cells, show Try.prog.cellsOf 23 = 1 from by kernel_rfl, show Try.prog.cellsOf 25 = 4 from by kernel_rfl, List.range, List.range.loop, lit_u32 ha, lit_u32 hb, lit_u32 hc, lit_u32 hd]
  · simp [Program.keyLits, Try.underlying25, Try.underlying23, Value.cells, show Try.prog.cellsOf 23 = 1 from by kernel_rfl, show Try.prog.cellsOf 25 = 4 from by kernel_rfl, List.range, List.range.loop, lit_u32 ha', lit_u32 hb', lit_u32 hc', lit_u32 hd']

theorem u32_zero : u32 0 := by simp [u32]

set_option maxRecDepth 100000 in
theorem right_any (p : Pg) (hp : p.ok) (w : World) : Calls Try.prog 65 #[p.val] w fun e w' => e = .returned (.bool p.right) ∧ Below w.heap.size w w' := by
  obtain ⟨s, q, g, a, b, c, d⟩ := p
  obtain ⟨_, _, h1, h2, h3, h4⟩ := hp
  simp only [Pg.val]
  have he := data_eq h1 h2 h3 h4 u32_zero u32_zero u32_zero u32_zero
  clear h1 h2 h3 h4
  go_enter Try.func65, Try.ntmps65
  cases g
  all_goals go_wp2
  all_goals go_ret
  all_goals refine ⟨ret_bool ?_, (Below.refl _ _).alloc (Nat.le_refl _) _⟩
  all_goals (simp [Pg.right]; try omega)

set_option maxRecDepth 100000 in
theorem ref_right_any (p : Pg) (hp : p.ok) (w : World) : Calls Try.prog 30 #[p.val] w fun e w' => e = .returned (.bool p.right) ∧ Below w.heap.size w w' := by
  obtain ⟨s, q, g, a, b, c, d⟩ := p
  obtain ⟨_, _, h1, h2, h3, h4⟩ := hp
  simp only [Pg.val]
  have he := data_eq h1 h2 h3 h4 u32_zero u32_zero u32_zero u32_zero
  clear h1 h2 h3 h4
  go_enter Try.func30, Try.ntmps30
  cases g
  all_goals go_wp2
  all_goals go_ret
  all_goals refine ⟨ret_bool ?_, (Below.refl _ _).alloc (Nat.le_refl _) _⟩
  all_goals (simp [Pg.right]; try omega)

theorem kind1_any (x : Int) (w : World) : Calls Try.prog 62 #[.int .u32 x] w fun e w' => e = .returned (.bool (!(x == 4294967295))) ∧ w = w' := by
  go_enter Try.func62, Try.ntmps62
  go_wp2
  go_ret
  exact ⟨rfl, rfl⟩

/-- are all bits of all words set? -/
def free (l : List Int) : Bool := l.all (· == ones)
def Idx (l : List Int) (w : World) (e : Ending) (w' : World) : Prop := (∃ n : Int, e = .returned (.int .i64 n) ∧ decide (0 ≤ n) = !free l) ∧ w = w'

theorem free_at {l : List Int} {k : Nat} (h : k < l.length) (hk : l[k]?.getD 0 ≠ ones) : free l = false := by
  rw [List.getElem?_eq_getElem h] at hk
  simp only [free, List.all_eq_false]
  exact ⟨l[k], List.getElem_mem _, by simpa using hk⟩
theorem free_take {l : List Int} {k : Nat} (h : k < l.length) (hk : l[k]?.getD 0 = ones) (hf : free (l.take k) = true) : free (l.take (k + 1)) = true := by
  rw [List.getElem?_eq_getElem h] at hk
  simp only [free] at *
  rw [List.take_succ_eq_append_getElem h, List.all_append, hf]
  simpa using hk
theorem free_end {l : List Int} {k : Nat} (h : l.length ≤ k) (hf : free (l.take k) = true) : free l = true := by rwa [List.take_of_length_le h] at hf

theorem indexFunc_any (v : Value) (l : List Int) (w : World) (h : Sl w v l) : Calls Try.prog 72 #[v, .func (.func 62) #[] #[]] w (Idx l w) := by
  have hbd := h.bound
  rcases h with ⟨rfl, rfl⟩ | ⟨b, off, cap, rfl, hl, hc, hbd, hb, hcell, hx⟩
  · go_enter Try.func72, Try.ntmps72
    go_wp2
    go_loop [5, 8] (fun _ i => i = .int .i64 0) (fun _ _ => 0)
    case atStart => rfl
    case round =>
      obtain rfl := hrel
      go_wp2
      go_ret
      exact ⟨⟨-1, rfl, by simp [free]⟩, rfl⟩
  · go_enter Try.func72, Try.ntmps72
    go_wp2
    go_loop [5, 8] (fun _ i => ∃ k : Nat, k ≤ l.length ∧ i = .int .i64 k ∧ free (l.take k) = true) (fun _ i => l.length - (intOf i).toNat)
    case atStart => exact ⟨0, Nat.zero_le _, rfl, rfl⟩
    case round =>
      obtain ⟨k, hk, rfl, hr⟩ := hrel
      have Hr := Lib.hid hr; clear hr
      by_cases hlt : k < l.length
      · obtain ⟨x, hkx⟩ : ∃ x, l[k]? = some x := ⟨_, List.getElem?_eq_getElem hlt⟩
        have hc1 : w.cell? ⟨b, off + k, none⟩ = some (.int .u32 x) := by rw [hcell k hlt, hkx]; rfl
        clear hcell
        have Hk := Lib.hid hkx; clear hkx
        by_cases hone : x = 4294967295
        · have Ho := Lib.hid hone
          have hb' : (x == 4294967295) = true := by simpa using hone
          clear hone
          go_wp2_with (go_at_call 62; refine (kind1_any _ _).mono ?_; rintro e w' ⟨rfl, rfl⟩)
          go_round
          case rel => exact ⟨k + 1, by omega, by go_num, free_take hlt (by rw [Hk.out]; exact Ho.out) Hr.out⟩
          case measure => simp only [intOf]; omega
        · have Ho := Lib.hid hone
          have hb' : (x == 4294967295) = false := by simpa using hone
          clear hone
          go_wp2_with (go_at_call 62; refine (kind1_any _ _).mono ?_; rintro e w' ⟨rfl, rfl⟩)
          go_ret
          exact ⟨⟨k, rfl, by rw [free_at hlt (by rw [Hk.out]; exact Ho.out)]; simp⟩, rfl⟩
      · go_wp2
        go_ret
        exact ⟨⟨-1, rfl, by rw [free_end (by omega) Hr.out]; rfl⟩, rfl⟩

theorem containsFunc_any (v : Value) (l : List Int) (w : World) (h : Sl w v l) : Calls Try.prog 63 #[v, .func (.func 62) #[] #[]] w fun e w' => e = .returned (.bool (!free l)) ∧ w = w' := by
  go_enter Try.func63, Try.ntmps63
  go_wp2_with fail
  refine (indexFunc_any _ _ _ h).mono ?_
  rintro e w' ⟨⟨n, rfl, hn⟩, rfl⟩
  have Hn := Lib.hid hn; clear hn
  go_wp2
  go_ret
  exact ⟨ret_bool Hn.out, rfl⟩
end Go.Proofs.Ytihlbfbplmehiaa
