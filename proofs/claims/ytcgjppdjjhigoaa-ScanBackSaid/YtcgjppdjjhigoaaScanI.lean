/- Walks of package scan: Counts. -/
import Derived.Test.YtcgjppdjjhigoaaBlk
namespace Go.Proofs.Ytcgjppdjjhigoaa
open Go.RowKit Go.Shelf
set_option maxHeartbeats 4000000

/-- the greatest count of the blocks that have a head -/
def countsOf (bs : List Bk) : Int := bs.foldl (fun n b => if b.h = 1 then max n b.c else n) 0
theorem countsOf_snoc (bs : List Bk) (b : Bk) : countsOf (bs ++ [b]) = if b.h = 1 then max (countsOf bs) b.c else countsOf bs := by simp [countsOf]

set_option maxRecDepth 100000 in
theorem counts_any (v : Value) (bs : List Bk) (w : World) (hb : Bl w v bs) (hlen : bs.length ≤ 1000) : Calls Try.prog 35 #[v] w fun e w' => e = .returned (.int .u32 (countsOf bs)) ∧ Below w.heap.size w w' := by
  obtain ⟨a, cp, rfl⟩ := hb.shape
  go_enter Try.func35, Try.ntmps35
  have Hb := Lib.hid hb; clear hb
  go_wp2_with fail
  have hi66 : (Try.prog.info? 68).map (·.size) = some 66 := by kernel_rfl
  have Hi := Lib.hid hi66; clear hi66
  have hz := zero_block
  have Hz := Lib.hid hz; clear hz
  go_loopw [2, 4, 7] (fun n _ i wr => ∃ k : Nat, k ≤ bs.length ∧ i = .int .i64 k ∧ n = .int .u32 (countsOf (bs.take k)) ∧ Below w.heap.size w wr) (fun _ _ i _ => bs.length - (intOf i).toNat)
  case atStart => exact ⟨0, by omega, rfl, rfl, Below.refl _ _⟩
  case round =>
    obtain ⟨k, hk, rfl, rfl, hB⟩ := hrel
    have HB := Lib.hid hB; clear hB
    by_cases hlt : k < bs.length
    · obtain ⟨x, hx⟩ : ∃ x, bs[k]? = some x := ⟨_, List.getElem?_eq_getElem hlt⟩
      obtain ⟨hok, b, off, cap, hv, hbw, hrg⟩ := Hb.out.block hx
      simp only [Value.slice.injEq] at hv
      obtain ⟨rfl, _, rfl⟩ := hv
      have hz := Hz.out wr
      have Hrg := Lib.hid (hrg wr HB.out); have Hx := Lib.hid hx; have Hok := Lib.hid hok; clear hrg hx hok
      go_wp2_with (first
        | (refine wpList_load_mid rfl _ _ rfl _ _ rfl _ _ Hrg.out Try.underlying68 rfl (by rw [Bk.cells_length Hok.out]; exact Hi.out) ?_)
        | (refine st_agg rfl rfl rfl rfl ((New.alloc wr (.cells bk0.toArray 68)).to) 66 Hi.out (Bk.cells_length Hok.out) (by decide) bk_one ?_; intro w3 hu3; clear hz
           have HA3 : Hid (At w3 wr.heap.size x.cells 68) := Lib.hid (by have h := hu3.to; rw [List.take_zero, List.nil_append, show bk0.drop (0 + 66) = [] from rfl, List.append_nil] at h; exact h)
           have hc0 : w3.cell? ⟨wr.heap.size, 0, none⟩ = some (.int .i64 x.h) := HA3.out.cell 0
           have hc1 : w3.cell? ⟨wr.heap.size, 1, none⟩ = some (.int .u32 x.c) := HA3.out.cell 1
           have HB3 := Lib.hid ((HB.out.alloc (o := .cells bk0.toArray 68) HB.out.size).trans (hu3.below HB.out.size))
           clear hu3)
        | fail)
      all_goals
        have ht : bs.take (k + 1) = bs.take k ++ [x] := by rw [List.take_add_one, Hx.out]; rfl
        rename_i hh
        refine ⟨⟨k + 1, by omega, by go_num, ?_, HB3.out⟩, by simp only [intOf]; omega⟩
        rw [ht, countsOf_snoc]
      · have h1 : x.h = 1 := by simpa using hh
        simp only [h1, if_true]; congr 1; split <;> omega
      · rw [if_neg (by simpa using hh)]
    · obtain rfl : k = bs.length := by omega
      go_wp2
      go_ret
      exact ⟨by simp, HB.out⟩
end Go.Proofs.Ytcgjppdjjhigoaa
