/- Walks of package scan: Empty and Counts. -/
import Derived.Test.YtcgjppdjjhigoaaScanG
namespace Go.Proofs.Ytcgjppdjjhigoaa
open Go.RowKit Go.Shelf
set_option maxHeartbeats 4000000
attribute [local go_sem] Oper.semAt_some

set_option maxRecDepth 100000 in
theorem empty_any (h c : Int) (ks : List Int) (ps : List Pg) (kv : Fin 8 → Int) (hk : ks.length = 8) (hp : ps.length = 8) (hkv : ∀ x : Fin 8, ks[x.1]? = some (kv x)) (w : World) :
    Calls Try.prog 39 #[.agg (bkCells h c ks ps).toArray] w fun e w' => e = .returned (.bool (nextOf h kv == 0)) ∧ Below w.heap.size w w' := by
  have hn := fun u => next_any h c ks ps kv hk hp hkv u
  have hlen := bk_length (h := h) (c := c) hk hp
  generalize bkCells h c ks ps = cs at *
  refine (callsIn_wide (n := 10)).1 ?_
  refine callsIn_of_wp Try.func39 rfl trivial ?_ rfl
  simp only [Try.ntmps39, List.size_toArray, List.length_cons, List.length_nil, Nat.reduceAdd, Nat.reduceSub, Array.replicate_succ, Array.replicate_zero, List.push_toArray, List.append_toArray, List.nil_append, List.cons_append]
  have hA : At (w.alloc (.cells cs.toArray 68)) w.heap.size cs 68 := (New.alloc w _).to
  have hB : Below w.heap.size w (w.alloc (.cells cs.toArray 68)) := (Below.refl _ w).alloc (Nat.le_refl _) _
  have hi66 : (Try.prog.info? 68).map (·.size) = some 66 := by kernel_rfl
  have HA := Lib.hid hA; have HB := Lib.hid hB; have Hi := Lib.hid hi66; have Hn := Lib.hid hn; have Hlen := Lib.hid hlen; clear hA hB hi66 hn hlen
  gi_wp2_with (first
    | (refine ld_agg_in rfl rfl rfl HA.out Try.underlying68 rfl 66 Hi.out (by rw [Hlen.out]; decide) ?_; rw [show ((cs.drop 0).take 66) = cs by rw [List.drop_zero]; exact List.take_of_length_le (Nat.le_of_eq Hlen.out)])
    | (refine ⟨trivial, ?_⟩; gi_at_call 37; refine (callsIn_wide.2 (Hn.out _)).mono ?_; rintro e w2 ⟨rfl, hb2⟩; have HB2 := Lib.hid (HB.out.trans (hb2.mono HB.out.size)); clear hb2)
    | fail)
  go_ret
  exact ⟨rfl, HB2.out⟩
end Go.Proofs.Ytcgjppdjjhigoaa
