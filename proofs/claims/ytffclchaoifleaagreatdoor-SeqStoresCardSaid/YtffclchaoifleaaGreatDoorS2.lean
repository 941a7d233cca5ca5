/- A part of the proof: see the last text of this claim. -/
import Derived.Test.YtffclchaoifleaaGreatDoorS1
import Derived.Test.YtffclchaoifleaaGreatDoorTx
import Derived.Test.YtffclchaoifleaaGreatDoorSp
import Derived.Lib.AtoiErrMem
set_option linter.unusedVariables false
set_option linter.unusedSimpArgs false
set_option linter.constructorNameAsVariable false
namespace Go.Lev.Seat
open Go Go.Lev Go.RowKit Go.Sort Go.Proofs
set_option linter.unusedVariables false

/-- What the row's condition gives of the first world. -/
structure WOK (w0 : World) : Prop where
  pow : Lib.TabIs P0 w0 "internal/strconv.uint64pow10" .u64 Lib.pow10Tab
  syn : ∃ t p, w0.var? P0 "strconv.ErrSyntax" = some #[.iface t p]
  rng : ∃ t p, w0.var? P0 "strconv.ErrRange" = some #[.iface t p]
  maxl : ∃ m, w0.cell? ⟨5, 0, none⟩ = some (.int .i64 m)
  glob : 5 < w0.heap.size

theorem var_below {w w' : World} {n : String} {g : Nat} {cs : Array Value} (h : w.var? P0 n = some cs) (hg : P0.globalNamed n = some g) (hb : Below w.heap.size w w') : w'.var? P0 n = some cs := by
  unfold World.var? at h ⊢
  rw [hg] at h ⊢
  simp only [Option.bind_some] at h ⊢
  have hlt : g < w.heap.size := by
    rcases Nat.lt_or_ge g w.heap.size with h1 | h1
    · exact h1
    · rw [Array.getElem?_eq_none h1] at h; simp at h
  rw [hb.block g hlt]
  exact h

theorem below_grow (w : World) (k : Nat) (os : Array Obj) : Below w.heap.size w (grow (w.drewN k) os) :=
  ⟨rfl, rfl, rfl, by simp [grow, World.drewN], fun j hj => by
    show (w.heap ++ os)[j]? = w.heap[j]?
    rw [Array.getElem?_append_left hj]⟩
theorem below_drewN (w : World) (n : Nat) : Below w.heap.size w (w.drewN n) := ⟨rfl, rfl, rfl, Nat.le_refl _, fun _ _ => rfl⟩

theorem base_valid {w0 : World} (h : WOK w0) : Valid P0 w0 base := by
  intro f
  have none : ValidAt P0 w0 (fun _ _ _ => none) f := fun fl args H v H' hh => by simp at hh
  unfold base
  have pow : ∀ w, Below w0.heap.size w0 w → Lib.TabIs P0 w "internal/strconv.uint64pow10" .u64 Lib.pow10Tab := fun w hb => var_below h.pow (g := 0) (by kernel_rfl) hb
  have maxl : ∀ w, Below w0.heap.size w0 w → ∃ m, w.cell? ⟨5, 0, Option.none⟩ = some (.int .i64 m) := fun w hb => by
    obtain ⟨m, hm⟩ := h.maxl
    exact ⟨m, by rw [hb.cell (p := ⟨5, 0, Option.none⟩) (by have := h.glob; show 5 < w0.heap.size; omega)]; exact hm⟩
  split
  · rename_i e
    have e : f = 26 := by simpa using e
    subst e
    refine scRow_valid ⟨_, Tryz.func26, by kernel_rfl, by kernel_rfl⟩ fun args v hg => ?_
    unfold gItoa at hg
    split at hg
    · rename_i n
      split at hg
      · rename_i hn
        obtain rfl := Option.some.inj hg
        refine ⟨rfl, fun w hb => ?_⟩
        exact (Tryz.strconv_Itoa n hn.1 hn.2 w (pow w hb)).mono fun e w' ⟨he, k, os, hw⟩ => ⟨he, by rw [hw]; exact below_grow w k os⟩
      · simp at hg
    · simp at hg
  split
  · rename_i e
    have e : f = 108 := by simpa using e
    subst e
    exact rJoin_valid ⟨_, Tryz.func108, by kernel_rfl, by kernel_rfl⟩ ⟨fun a c sep w => Tryz.strings_Join_none a c sep w, fun bk o c xs sep w h1 h2 h3 h4 h5 => Tryz.strings_Join bk o c xs sep w h1 h2 h3 h4 h5⟩
  split
  · rename_i e
    have e : f = 116 := by simpa using e
    subst e
    refine scRow_valid ⟨_, Tryz.func116, by kernel_rfl, by kernel_rfl⟩ fun args v hg => ?_
    unfold gCut at hg
    split at hg
    · rename_i s sep
      split at hg
      · rename_i hn
        obtain rfl := Option.some.inj hg
        refine ⟨rfl, fun w hb => ?_⟩
        obtain ⟨m, hm⟩ := maxl w hb
        exact (Tryz.strings_Cut s sep m w hn hm).mono fun e w' ⟨he, n, hw⟩ => ⟨he, by rw [hw]; exact below_drewN w n⟩
      · simp at hg
    · simp at hg
  split
  · rename_i e
    have e : f = 126 := by simpa using e
    subst e
    refine scRow_valid ⟨_, Tryz.func126, by kernel_rfl, by kernel_rfl⟩ fun args v hg => ?_
    unfold gFmt at hg
    split at hg
    · rename_i n
      split at hg
      · rename_i hn
        obtain rfl := Option.some.inj hg
        refine ⟨rfl, fun w hb => ?_⟩
        exact (Tryz.strconv_FormatInt_10 n hn.1 hn.2 w (pow w hb)).mono fun e w' ⟨he, k, os, hw⟩ => ⟨he, by rw [hw]; exact below_grow w k os⟩
      · simp at hg
    · simp at hg
  split
  · rename_i e
    have e : f = 140 := by simpa using e
    subst e
    refine scRow_valid ⟨_, Tryz.func140, by kernel_rfl, by kernel_rfl⟩ fun args v hg => ?_
    unfold gIndex at hg
    split at hg
    · rename_i s sep
      split at hg
      · rename_i hn
        obtain rfl := Option.some.inj hg
        refine ⟨rfl, fun w hb => ?_⟩
        obtain ⟨m, hm⟩ := maxl w hb
        exact (Tryz.strings_Index s sep m w hn hm).mono fun e w' ⟨he, hw⟩ => ⟨he, by rw [hw]; exact Below.refl _ _⟩
      · simp at hg
    · simp at hg
  split
  · rename_i e
    have e : f = 167 := by simpa using e
    subst e
    refine rParse_valid ⟨_, Tryz.func167, by kernel_rfl, by kernel_rfl⟩ fun s w hs hb => ?_
    have hs' : s.size ≤ 9223372036854775806 := by omega
    cases hp : Lib.parseIntB 64 s.data.toList with
    | ok v =>
      refine (Tryz.strconv_ParseInt_10_at64_ok s hs' v hp w).mono fun e w' ⟨he, hw⟩ => ⟨?_, he⟩
      rcases hw with rfl | ⟨t, rfl⟩
      · exact Below.refl _ _
      · exact Lib.bytesWorld_below _ _ _
    | range =>
      obtain ⟨t, p, hv⟩ := h.rng
      refine (Tryz.strconv_ParseInt_10_at64_range_var s hs hp t p w (var_below hv (g := 7) (by kernel_rfl) hb)).mono fun e w' ⟨N, he, h1, h2, h3⟩ => ⟨h3, N, _, _, he, h1, h2⟩
    | _ =>
      obtain ⟨t, p, hv⟩ := h.syn
      refine (Tryz.strconv_ParseInt_10_at64_syntax_var s hs hp t p w (var_below hv (g := 6) (by kernel_rfl) hb)).mono fun e w' ⟨N, he, h1, h2, h3⟩ => ⟨h3, N, _, _, he, h1, h2⟩
  split
  · rename_i e
    have e : f = 191 := by simpa using e
    subst e
    refine scRow_valid ⟨_, Tryz.func191, by kernel_rfl, by kernel_rfl⟩ fun args v hg => ?_
    unfold gHas at hg
    split at hg
    · rename_i s sep
      split at hg
      · rename_i hn
        obtain rfl := Option.some.inj hg
        refine ⟨rfl, fun w hb => ?_⟩
        obtain ⟨m, hm⟩ := maxl w hb
        exact (Tryz.strings_Contains s sep m w hn hm).mono fun e w' ⟨he, hw⟩ => ⟨he, by rw [hw]; exact Below.refl _ _⟩
      · simp at hg
    · simp at hg
  · exact none

theorem base_far {f : Nat} (hf : pf (f + 1000000) = true) : base f = fun _ _ _ => none := by
  unfold base
  split
  · rename_i e
    have e : f = 26 := by simpa using e
    subst e
    exact absurd hf (by decide)
  split
  · rename_i e
    have e : f = 108 := by simpa using e
    subst e
    exact absurd hf (by decide)
  split
  · rename_i e
    have e : f = 116 := by simpa using e
    subst e
    exact absurd hf (by decide)
  split
  · rename_i e
    have e : f = 126 := by simpa using e
    subst e
    exact absurd hf (by decide)
  split
  · rename_i e
    have e : f = 140 := by simpa using e
    subst e
    exact absurd hf (by decide)
  split
  · rename_i e
    have e : f = 167 := by simpa using e
    subst e
    exact absurd hf (by decide)
  split
  · rename_i e
    have e : f = 191 := by simpa using e
    subst e
    exact absurd hf (by decide)
  rfl

theorem base_pure : PureOK base pf := by
  intro f
  refine ⟨fun hf fl args H v H' h => ?_, fun hf fl args H v H' h => absurd h (by rw [base_far hf]; simp)⟩
  unfold base at h
  split at h
  · exact scRow_same h
  split at h
  · exact rJoin_same h
  split at h
  · exact scRow_same h
  split at h
  · exact scRow_same h
  split at h
  · exact scRow_same h
  split at h
  · rename_i e
    have e : f = 167 := by simpa using e
    subst e
    exact absurd hf (by decide)
  split at h
  · exact scRow_same h
  · simp at h

theorem split_all {w0 : World} : ∀ kf idx, splitOf P0 = some (kf, idx) → SplitSound P0 w0 kf idx := fun kf idx h => by
  rw [show splitOf P0 = some (138, 140) from by kernel_rfl] at h
  simp only [Option.some.injEq, Prod.mk.injEq] at h
  obtain ⟨rfl, rfl⟩ := h
  exact split_ok

/-- A run of the table, as a call of the program. -/
theorem calls_of {w : World} (h : WOK w) {k d : Nat} {f : FuncId} {args : List Value} {v : Value} {H' : Heap} (hr : T k d f 0 args [] = some (v, H')) (ha : args.all isSc = true) (hv : isSc v = true) :
    Calls P0 f args.toArray w fun e w' => e = .returned v ∧ Below w.heap.size w w' := by
  obtain ⟨hv1, _⟩ := tab_valid (base_valid h) base_pure fns_ok fns_pure split_all k d
  obtain ⟨_, _, hc⟩ := hv1 f 0 args [] v H' hr
  have R : Rel w (fun _ => ⟨0, 0, 0, 0, 0⟩) [] w := ⟨Below.refl _ _, fun id b hb => by simp at hb, fun i j b c hb => by simp at hb⟩
  have L : LRel 0 (fun _ => ⟨0, 0, 0, 0, 0⟩) w.heap args args := ⟨rfl, fun i a b h1 h2 => by
    obtain rfl := Option.some.inj (h1.symm.trans h2)
    exact VRel.ofSc (List.all_eq_true.1 ha _ (List.mem_of_getElem? h1))⟩
  refine (hc _ w args.toArray R (by simpa using L)).mono fun e w' ⟨v', ρ', he, hr, R', _⟩ => ?_
  rw [hr.sc hv] at he
  exact ⟨he, R'.below⟩
end Go.Lev.Seat
