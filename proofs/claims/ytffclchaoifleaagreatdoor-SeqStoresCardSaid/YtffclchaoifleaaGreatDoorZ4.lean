/- A part of the proof: see the last text of this claim. -/
import Derived.Test.YtffclchaoifleaaGreatDoorKa
import Derived.Test.YtffclchaoifleaaGreatDoorK0
import Derived.Test.YtffclchaoifleaaGreatDoorK1
import Derived.Test.YtffclchaoifleaaGreatDoorK2
import Derived.Test.YtffclchaoifleaaGreatDoorK3
import Derived.Test.YtffclchaoifleaaGreatDoorZ1
import Derived.Test.YtffclchaoifleaaGreatDoorZ2
import Derived.Test.YtffclchaoifleaaGreatDoorZ3
set_option linter.unusedVariables false
set_option linter.unusedSimpArgs false
set_option linter.constructorNameAsVariable false
namespace Go.Lev.Seat
open Go Go.Lev
set_option linter.unusedSimpArgs false
set_option linter.unusedVariables false
set_option maxRecDepth 100000
theorem fst_some {r : Option (Value × Heap)} {v : Value} (h : fst r = some v) : ∃ H, r = some (v, H) := by
  obtain ⟨⟨x, H⟩, h1, h2⟩ := Option.map_eq_some_iff.1 h
  exact ⟨H, by rw [h1]; simp only at h2; rw [h2]⟩
theorem alive_run : Run 20 n_law11_alive [] (.bool true) := Run.closed (F := L_law11_alive) (d0 := 19) (fun _ _ => rfl) rfl t_alive
theorem u64_small (x : Int) (h0 : 0 ≤ x) (h1 : x < 18446744073709551616) : IntKind.u64.wrap x = x := by rw [IntKind.wrap_u64]; omega
theorem place_of (a : Int) (h0 : 0 ≤ a) (h1 : a < 256) : ∃ j : Nat, j < 8 ∧ (IntKind.u64.wrap (IntKind.u64.wrap ((IntKind.u64.wrap a).tdiv 8) * 8)).tmod 64 = 8 * (j : Int) := by
  refine ⟨(a / 8 % 8).toNat, by omega, ?_⟩
  rw [u64_small a h0 (by omega), Int.tdiv_eq_ediv_of_nonneg h0, u64_small (a / 8) (by omega) (by omega), u64_small _ (by omega) (by omega), Int.tmod_eq_emod_of_nonneg (by omega)]
  omega
theorem size_of (n : Int) (h0 : 0 ≤ n) : ∃ k : Nat, k < 4 ∧ n.tmod 4 = (k : Int) := by
  refine ⟨(n % 4).toNat, by omega, ?_⟩
  rw [Int.tmod_eq_emod_of_nonneg h0]
  omega
theorem size_run0 : Run 19 n_ref05_Size [.int .i64 18] (.int .i64 1) := Run.closed (F := L_ref05_Size) (d0 := 18) (fun _ _ => rfl) rfl size0
theorem size_run1 : Run 19 n_ref05_Size [.int .i64 19] (.int .i64 2) := Run.closed (F := L_ref05_Size) (d0 := 18) (fun _ _ => rfl) rfl size1
theorem size_run2 : Run 19 n_ref05_Size [.int .i64 20] (.int .i64 4) := Run.closed (F := L_ref05_Size) (d0 := 18) (fun _ _ => rfl) rfl size2
theorem size_run3 : Run 19 n_ref05_Size [.int .i64 21] (.int .i64 8) := Run.closed (F := L_ref05_Size) (d0 := 18) (fun _ _ => rfl) rfl size3
theorem stores_run (a v n : Int) (ha : 0 ≤ a ∧ a < 256) (hv : 0 ≤ v ∧ v < 18446744073709551616) (hn : 0 ≤ n) : Run 21 n_law11_SeqStores [.int .u8 a, .int .u64 v, .int .u8 n] (.bool true) := by
  refine Run.text (F := L_law11_SeqStores) (fun _ _ => rfl) rfl rfl (by simp [L_law11_SeqStores]) rfl fun d hd => ?_
  have up : ∀ {f : FuncId} {args : List Value} {H : Heap} {r : Value × Heap}, T 300 19 f 0 args H = some r → T K d f 0 args H = some r := fun h => tab_mono (by decide) (by omega) _ _ _ _ _ h
  have hal := alive_run.any hd
  have hz := fun (m : Nat) (hm : m ≤ 64) => (rzext_run v m hm hv.1 hv.2).any (show 1 ≤ d by omega)
  obtain ⟨e0, e1, e2, e3⟩ := x3_eq v hv.1 hv.2
  obtain ⟨j, hj, hA⟩ := place_of a ha.1 ha.2
  obtain ⟨k, hk, hnk⟩ := size_of n hn
  have z8 := hz 8 (by omega)
  have z16 := hz 16 (by omega)
  have z32 := hz 32 (by omega)
  have z64 := hz 64 (by omega)
  rw [← e0] at z8
  rw [← e1] at z16
  rw [← e2] at z32
  rw [← e3] at z64
  clear e0 e1 e2 e3 hz
  match k, hk, j, hj with
  | 0, hk, 0, hj =>
    obtain ⟨H', hH⟩ := fst_some (al0_0 v)
    exact stores_main (k := 0) (A := 0) (sz := 1) (x := x3_0 v) (img := img0) hnk (by omega) (by rw [hA]; rfl) rfl hal (up as0) (up hH) (size_run0.any (show 19 ≤ d by omega)) (by omega) z8
  | 0, hk, 1, hj =>
    obtain ⟨H', hH⟩ := fst_some (al0_1 v)
    exact stores_main (k := 0) (A := 8) (sz := 1) (x := x3_0 v) (img := img0) hnk (by omega) (by rw [hA]; rfl) rfl hal (up as0) (up hH) (size_run0.any (show 19 ≤ d by omega)) (by omega) z8
  | 0, hk, 2, hj =>
    obtain ⟨H', hH⟩ := fst_some (al0_2 v)
    exact stores_main (k := 0) (A := 16) (sz := 1) (x := x3_0 v) (img := img0) hnk (by omega) (by rw [hA]; rfl) rfl hal (up as0) (up hH) (size_run0.any (show 19 ≤ d by omega)) (by omega) z8
  | 0, hk, 3, hj =>
    obtain ⟨H', hH⟩ := fst_some (al0_3 v)
    exact stores_main (k := 0) (A := 24) (sz := 1) (x := x3_0 v) (img := img0) hnk (by omega) (by rw [hA]; rfl) rfl hal (up as0) (up hH) (size_run0.any (show 19 ≤ d by omega)) (by omega) z8
  | 0, hk, 4, hj =>
    obtain ⟨H', hH⟩ := fst_some (al0_4 v)
    exact stores_main (k := 0) (A := 32) (sz := 1) (x := x3_0 v) (img := img0) hnk (by omega) (by rw [hA]; rfl) rfl hal (up as0) (up hH) (size_run0.any (show 19 ≤ d by omega)) (by omega) z8
  | 0, hk, 5, hj =>
    obtain ⟨H', hH⟩ := fst_some (al0_5 v)
    exact stores_main (k := 0) (A := 40) (sz := 1) (x := x3_0 v) (img := img0) hnk (by omega) (by rw [hA]; rfl) rfl hal (up as0) (up hH) (size_run0.any (show 19 ≤ d by omega)) (by omega) z8
  | 0, hk, 6, hj =>
    obtain ⟨H', hH⟩ := fst_some (al0_6 v)
    exact stores_main (k := 0) (A := 48) (sz := 1) (x := x3_0 v) (img := img0) hnk (by omega) (by rw [hA]; rfl) rfl hal (up as0) (up hH) (size_run0.any (show 19 ≤ d by omega)) (by omega) z8
  | 0, hk, 7, hj =>
    obtain ⟨H', hH⟩ := fst_some (al0_7 v)
    exact stores_main (k := 0) (A := 56) (sz := 1) (x := x3_0 v) (img := img0) hnk (by omega) (by rw [hA]; rfl) rfl hal (up as0) (up hH) (size_run0.any (show 19 ≤ d by omega)) (by omega) z8
  | 1, hk, 0, hj =>
    obtain ⟨H', hH⟩ := fst_some (al1_0 v)
    exact stores_main (k := 1) (A := 0) (sz := 2) (x := x3_1 v) (img := img1) hnk (by omega) (by rw [hA]; rfl) rfl hal (up as1) (up hH) (size_run1.any (show 19 ≤ d by omega)) (by omega) z16
  | 1, hk, 1, hj =>
    obtain ⟨H', hH⟩ := fst_some (al1_1 v)
    exact stores_main (k := 1) (A := 8) (sz := 2) (x := x3_1 v) (img := img1) hnk (by omega) (by rw [hA]; rfl) rfl hal (up as1) (up hH) (size_run1.any (show 19 ≤ d by omega)) (by omega) z16
  | 1, hk, 2, hj =>
    obtain ⟨H', hH⟩ := fst_some (al1_2 v)
    exact stores_main (k := 1) (A := 16) (sz := 2) (x := x3_1 v) (img := img1) hnk (by omega) (by rw [hA]; rfl) rfl hal (up as1) (up hH) (size_run1.any (show 19 ≤ d by omega)) (by omega) z16
  | 1, hk, 3, hj =>
    obtain ⟨H', hH⟩ := fst_some (al1_3 v)
    exact stores_main (k := 1) (A := 24) (sz := 2) (x := x3_1 v) (img := img1) hnk (by omega) (by rw [hA]; rfl) rfl hal (up as1) (up hH) (size_run1.any (show 19 ≤ d by omega)) (by omega) z16
  | 1, hk, 4, hj =>
    obtain ⟨H', hH⟩ := fst_some (al1_4 v)
    exact stores_main (k := 1) (A := 32) (sz := 2) (x := x3_1 v) (img := img1) hnk (by omega) (by rw [hA]; rfl) rfl hal (up as1) (up hH) (size_run1.any (show 19 ≤ d by omega)) (by omega) z16
  | 1, hk, 5, hj =>
    obtain ⟨H', hH⟩ := fst_some (al1_5 v)
    exact stores_main (k := 1) (A := 40) (sz := 2) (x := x3_1 v) (img := img1) hnk (by omega) (by rw [hA]; rfl) rfl hal (up as1) (up hH) (size_run1.any (show 19 ≤ d by omega)) (by omega) z16
  | 1, hk, 6, hj =>
    obtain ⟨H', hH⟩ := fst_some (al1_6 v)
    exact stores_main (k := 1) (A := 48) (sz := 2) (x := x3_1 v) (img := img1) hnk (by omega) (by rw [hA]; rfl) rfl hal (up as1) (up hH) (size_run1.any (show 19 ≤ d by omega)) (by omega) z16
  | 1, hk, 7, hj =>
    obtain ⟨H', hH⟩ := fst_some (al1_7 v)
    exact stores_main (k := 1) (A := 56) (sz := 2) (x := x3_1 v) (img := img1) hnk (by omega) (by rw [hA]; rfl) rfl hal (up as1) (up hH) (size_run1.any (show 19 ≤ d by omega)) (by omega) z16
  | 2, hk, 0, hj =>
    obtain ⟨H', hH⟩ := fst_some (al2_0 v)
    exact stores_main (k := 2) (A := 0) (sz := 4) (x := x3_2 v) (img := img2) hnk (by omega) (by rw [hA]; rfl) rfl hal (up as2) (up hH) (size_run2.any (show 19 ≤ d by omega)) (by omega) z32
  | 2, hk, 1, hj =>
    obtain ⟨H', hH⟩ := fst_some (al2_1 v)
    exact stores_main (k := 2) (A := 8) (sz := 4) (x := x3_2 v) (img := img2) hnk (by omega) (by rw [hA]; rfl) rfl hal (up as2) (up hH) (size_run2.any (show 19 ≤ d by omega)) (by omega) z32
  | 2, hk, 2, hj =>
    obtain ⟨H', hH⟩ := fst_some (al2_2 v)
    exact stores_main (k := 2) (A := 16) (sz := 4) (x := x3_2 v) (img := img2) hnk (by omega) (by rw [hA]; rfl) rfl hal (up as2) (up hH) (size_run2.any (show 19 ≤ d by omega)) (by omega) z32
  | 2, hk, 3, hj =>
    obtain ⟨H', hH⟩ := fst_some (al2_3 v)
    exact stores_main (k := 2) (A := 24) (sz := 4) (x := x3_2 v) (img := img2) hnk (by omega) (by rw [hA]; rfl) rfl hal (up as2) (up hH) (size_run2.any (show 19 ≤ d by omega)) (by omega) z32
  | 2, hk, 4, hj =>
    obtain ⟨H', hH⟩ := fst_some (al2_4 v)
    exact stores_main (k := 2) (A := 32) (sz := 4) (x := x3_2 v) (img := img2) hnk (by omega) (by rw [hA]; rfl) rfl hal (up as2) (up hH) (size_run2.any (show 19 ≤ d by omega)) (by omega) z32
  | 2, hk, 5, hj =>
    obtain ⟨H', hH⟩ := fst_some (al2_5 v)
    exact stores_main (k := 2) (A := 40) (sz := 4) (x := x3_2 v) (img := img2) hnk (by omega) (by rw [hA]; rfl) rfl hal (up as2) (up hH) (size_run2.any (show 19 ≤ d by omega)) (by omega) z32
  | 2, hk, 6, hj =>
    obtain ⟨H', hH⟩ := fst_some (al2_6 v)
    exact stores_main (k := 2) (A := 48) (sz := 4) (x := x3_2 v) (img := img2) hnk (by omega) (by rw [hA]; rfl) rfl hal (up as2) (up hH) (size_run2.any (show 19 ≤ d by omega)) (by omega) z32
  | 2, hk, 7, hj =>
    obtain ⟨H', hH⟩ := fst_some (al2_7 v)
    exact stores_main (k := 2) (A := 56) (sz := 4) (x := x3_2 v) (img := img2) hnk (by omega) (by rw [hA]; rfl) rfl hal (up as2) (up hH) (size_run2.any (show 19 ≤ d by omega)) (by omega) z32
  | 3, hk, 0, hj =>
    obtain ⟨H', hH⟩ := fst_some (al3_0 v)
    exact stores_main (k := 3) (A := 0) (sz := 8) (x := x3_3 v) (img := img3) hnk (by omega) (by rw [hA]; rfl) rfl hal (up as3) (up hH) (size_run3.any (show 19 ≤ d by omega)) (by omega) z64
  | 3, hk, 1, hj =>
    obtain ⟨H', hH⟩ := fst_some (al3_1 v)
    exact stores_main (k := 3) (A := 8) (sz := 8) (x := x3_3 v) (img := img3) hnk (by omega) (by rw [hA]; rfl) rfl hal (up as3) (up hH) (size_run3.any (show 19 ≤ d by omega)) (by omega) z64
  | 3, hk, 2, hj =>
    obtain ⟨H', hH⟩ := fst_some (al3_2 v)
    exact stores_main (k := 3) (A := 16) (sz := 8) (x := x3_3 v) (img := img3) hnk (by omega) (by rw [hA]; rfl) rfl hal (up as3) (up hH) (size_run3.any (show 19 ≤ d by omega)) (by omega) z64
  | 3, hk, 3, hj =>
    obtain ⟨H', hH⟩ := fst_some (al3_3 v)
    exact stores_main (k := 3) (A := 24) (sz := 8) (x := x3_3 v) (img := img3) hnk (by omega) (by rw [hA]; rfl) rfl hal (up as3) (up hH) (size_run3.any (show 19 ≤ d by omega)) (by omega) z64
  | 3, hk, 4, hj =>
    obtain ⟨H', hH⟩ := fst_some (al3_4 v)
    exact stores_main (k := 3) (A := 32) (sz := 8) (x := x3_3 v) (img := img3) hnk (by omega) (by rw [hA]; rfl) rfl hal (up as3) (up hH) (size_run3.any (show 19 ≤ d by omega)) (by omega) z64
  | 3, hk, 5, hj =>
    obtain ⟨H', hH⟩ := fst_some (al3_5 v)
    exact stores_main (k := 3) (A := 40) (sz := 8) (x := x3_3 v) (img := img3) hnk (by omega) (by rw [hA]; rfl) rfl hal (up as3) (up hH) (size_run3.any (show 19 ≤ d by omega)) (by omega) z64
  | 3, hk, 6, hj =>
    obtain ⟨H', hH⟩ := fst_some (al3_6 v)
    exact stores_main (k := 3) (A := 48) (sz := 8) (x := x3_3 v) (img := img3) hnk (by omega) (by rw [hA]; rfl) rfl hal (up as3) (up hH) (size_run3.any (show 19 ≤ d by omega)) (by omega) z64
  | 3, hk, 7, hj =>
    obtain ⟨H', hH⟩ := fst_some (al3_7 v)
    exact stores_main (k := 3) (A := 56) (sz := 8) (x := x3_3 v) (img := img3) hnk (by omega) (by rw [hA]; rfl) rfl hal (up as3) (up hH) (size_run3.any (show 19 ≤ d by omega)) (by omega) z64
  | k + 4, hk, _, _ => exact absurd hk (by omega)
  | 0, _, j + 8, hj => exact absurd hj (by omega)
  | 1, _, j + 8, hj => exact absurd hj (by omega)
  | 2, _, j + 8, hj => exact absurd hj (by omega)
  | 3, _, j + 8, hj => exact absurd hj (by omega)
end Go.Lev.Seat
