/- append and copy over numbered boxes. -/
import Derived.Test.YtcaogimdpcaohaaDoorLev3
set_option linter.unusedVariables false
namespace Go.Lev
open Go Go.RowKit

/-- An operation's answer, told over boxes. -/
def Res (w0 : World) (ρ : Nat → RB) (H : Heap) (w : World) (v : Value) (H' : Heap) (r : Result Value) : Prop :=
  ∃ v' w' ρ', r = .ok v' w' ∧ VRel H'.length ρ' w'.heap v v' ∧ Rel w0 ρ' H' w' ∧ Ext H.length ρ w.heap H'.length ρ' w'.heap

theorem src_of {w0 w : World} {P : Program} {ρ : Nat → RB} {H : Heap} (r : Rel w0 ρ H w) {esz m : Nat} {x x' : Value} {ys : List Value} (h : srcCells esz H x = some (ys, m))
    (hx : VRel H.length ρ w.heap x x') {tx e' : TypeId} (hk : P.underlying tx = some (.slice e')) (hone : ys.all Value.oneCell' = true) :
    ∃ news, Src P esz tx x' m news w ∧ LRel H.length ρ w.heap ys news ∧ ys.length = m * esz := by
  have one : ∀ news, LRel H.length ρ w.heap ys news → ∀ v ∈ news, v.oneCell' = true := fun news hl v hm => by
    obtain ⟨i, hi, rfl⟩ := List.getElem_of_mem hm
    have hi2 : i < ys.length := by have := hl.1; omega
    rw [(hl.2 i _ _ (List.getElem?_eq_getElem hi2) (List.getElem?_eq_getElem hi)).oneCell]
    exact List.all_eq_true.1 hone _ (List.getElem_mem hi2)
  cases hx with
  | sliceNil =>
    simp [srcCells] at h
    obtain ⟨rfl, rfl⟩ := h
    exact ⟨[], Src.ofNil w hk 0, .nil _ _ _, by simp⟩
  | slice id off g n c c' a hid hg hn ha =>
    simp only [srcCells, Option.map_eq_some_iff, Prod.mk.injEq] at h
    obtain ⟨l, hl, rfl, rfl⟩ := h
    obtain ⟨b, hb, hs, hle, rfl⟩ := rdN_some hl
    simp only [Option.some.injEq] at hs
    simp only at hb hle
    obtain ⟨l', k1, k2, k3⟩ := r.cellsAt hb off (n * esz) hle
    have hgen : g = (ρ id).gen := by rw [(r.box id b hb).gen]; exact hs
    refine ⟨l', Src.ofSlice w hk a n c' l' k1 (fun j u hj => ?_) (one l' k3), k3, by simp; omega⟩
    have hc : 0 < c' := by
      rcases Nat.eq_zero_or_pos c' with h | h
      · exfalso
        have hn0 : n = 0 := by omega
        rw [hn0, Nat.zero_mul] at k1
        have := (List.getElem?_eq_some_iff.1 hj).1
        omega
      · exact h
    rw [(ha hgen).1 hc, Addr.add_lit]
    exact k2 j u hj
  | marker cs cs' k n c e fr hk' hn hf hh hs hc =>
    simp only [srcCells] at h
    split at h
    · rename_i hsz
      simp only [Option.some.injEq, Prod.mk.injEq] at h
      obtain ⟨rfl, rfl⟩ := h
      have hl : LRel H.length ρ w.heap cs.toList cs'.toList := ⟨by simpa using hs, fun i v v' h1 h2 => hc i v v' (by simpa using h1) (by simpa using h2)⟩
      refine ⟨cs'.toList, Src.ofSlice w hk _ _ c cs'.toList (by simp; omega) (fun j u hj => ?_) (one _ hl), hl, by simpa using hsz⟩
      rw [Addr.add_lit]
      simp only [World.cell?, hh]
      simpa using hj
    · simp at h
  | _ => simp [srcCells] at h

theorem setCells_heap (P : Program) (w : World) (b o : Nat) (vs : List Value) (cur : Array Value) (t : TypeId) (hg : w.heap[b]? = some (.cells cur t (0, 0))) (hl : o + vs.length ≤ cur.size) (h1 : ∀ v ∈ vs, v.oneCell' = true) :
    w.setCells b o vs = w.setRow b (setSeg cur.toList o vs).toArray := by
  have e1 := run_storeCells_at (P := P) b o t vs 0 cur w hg (by simpa using hl) h1
  have e2 := run_storeCells_cells (P := P) b o vs 0 w (fun j hj => by simp [World.cell?, hg]; omega) (fun j hj => by simp [World.frozen?, hg]) h1
  rw [e1] at e2
  simp only [Nat.add_zero] at e2
  injection e2 with _ e2
  exact e2.symm

theorem grownCap_ge (w : World) (need old : Nat) (e : TypeId) : need ≤ grownCap w need old e := by
  unfold grownCap Question.cut
  exact Nat.le_add_right _ _

theorem zeroCells_size (zero : Array Value) (n : Nat) : (Builtin.zeroCells zero n).size = n * zero.size := by simp [Builtin.zeroCells]

theorem app_res {w0 w : World} {P : Program} {ρ : Nat → RB} {H H' : Heap} (r : Rel w0 ρ H w) {fl esz bytes : Nat} {s x v s' x' : Value} (h : appV fl esz bytes H s x = some (v, H'))
    (hs : VRel H.length ρ w.heap s s') (hx : VRel H.length ρ w.heap x x') {t tx ty e e' : TypeId} {i : TypeInfo} {z : Value} (ht : P.underlying t = some (.slice e)) (htx : P.underlying tx = some (.slice e'))
    (hi : P.info? e = some i) (hz : i.zero = some z) (hsz : i.size = esz) (hzs : z.cells.size = esz) (hby : i.bytes = bytes) :
    Res w0 ρ H w v H' ((Builtin.append_ #[t, tx] ty #[s', x']).run P w) := by
  subst hsz hby
  unfold appV at h
  cases hsrc : srcCells i.size H x with
  | none => rw [hsrc] at h; simp at h
  | some p =>
  obtain ⟨ys, m⟩ := p
  rw [hsrc] at h
  simp only at h
  split at h
  · simp at h
  rename_i hcond
  simp only [not_or, Bool.not_eq_false] at hcond
  obtain ⟨hesz, hone⟩ := hcond
  obtain ⟨news, hnews, hln, hyl⟩ := src_of r hsrc hx htx hone
  cases hs with
  | sliceNil =>
    simp only at h
    split at h
    · rename_i hm
      subst hm
      simp only [Option.some.injEq, Prod.mk.injEq] at h
      obtain ⟨rfl, rfl⟩ := h
      have hn0 : news = [] := List.eq_nil_of_length_eq_zero (by have := hnews.newsLen; simpa using this)
      subst hn0
      exact ⟨_, w, ρ, run_append_nothing w t tx ty e i ht hi none 0 0 (Nat.le_refl _) x' hnews, .sliceNil, r, .refl _ _ _⟩
    · rename_i hm
      split at h
      · rename_i hb
        simp only [Option.some.injEq, Prod.mk.injEq] at h
        obtain ⟨rfl, rfl⟩ := h
        have hg := run_append_grow_src (P := P) w t tx ty e i z ht hi hz none 0 0 [] (by simp [Builtin.firstCells]) x' m news hnews (by omega) (by simp; omega) (growslice_fits (by omega) (by simpa using hb.1))
        simp only [Nat.zero_add, List.nil_append] at hg
        have hcap := grownCap_ge w m 0 e
        have rd : Rel w0 ρ H w.drew := r.world rfl rfl rfl rfl
        obtain ⟨ρ', h1, h2, h3⟩ := rd.push { cells := ys, gen := 0, row := i.size } rfl rfl (news.toArray ++ Builtin.zeroCells z.cells (grownCap w m 0 e - m)) e (fun j u hj => by
          obtain ⟨u', k1, k2⟩ := hln.get hj
          have := (List.getElem?_eq_some_iff.1 k1).1
          refine ⟨u', ?_, k2⟩
          rw [Array.getElem?_append_left (by simpa using this)]
          simpa using k1)
        refine ⟨_, _, ρ', hg, ?_, h2, h3⟩
        refine .slice H.length 0 0 m i.size _ _ (by simp) (by omega) hcap fun _ => ⟨fun _ => by rw [h1]; rfl, fun _ _ _ => ?_⟩
        rw [h1]
        simp only [Array.size_append, zeroCells_size, List.size_toArray, hnews.newsLen, hzs]
        simp only [Nat.zero_add]
        rw [← Nat.add_mul]
        have : m + (grownCap w m 0 e - m) = grownCap w m 0 e := by omega
        rw [this]
        exact Nat.le_refl _
      · simp at h
  | slice id off g n c c' a hid hg hn ha =>
    simp only at h
    cases hb : H[id]? with
    | none => rw [hb] at h; simp at h
    | some b =>
    rw [hb] at h
    simp only at h
    split at h
    case isFalse => simp at h
    rename_i hc
    obtain ⟨hsp, rfl, hrow, hro, hfl, hle, hby, hlen⟩ := hc
    simp only [Option.some.injEq] at hsp
    have hB := r.box id b hb
    have hgen : g = (ρ id).gen := by rw [hB.gen]; exact hsp
    split at h
    · rename_i hm
      subst hm
      simp only [Option.some.injEq, Prod.mk.injEq] at h
      obtain ⟨rfl, rfl⟩ := h
      have hn0 : news = [] := List.eq_nil_of_length_eq_zero (by have := hnews.newsLen; simpa using this)
      subst hn0
      exact ⟨_, w, ρ, run_append_nothing w t tx ty e i ht hi (some a) n c' hn x' hnews, .slice id off g n _ c' a hid hg hn ha, r, .refl _ _ _⟩
    · rename_i hm
      simp only [Option.some.injEq, Prod.mk.injEq] at h
      obtain ⟨rfl, rfl⟩ := h
      obtain ⟨cs, e1, fr, h1, h2, h3, h4⟩ := hB.cells
      obtain rfl := h2 hro
      obtain ⟨olds, o1, o2, o3⟩ := r.cellsAt hb off (n * i.size) hle
      have holds : LRel H.length ρ w.heap ((b.cells.drop off).take (n * i.size) ++ ys) (olds ++ news) := o3.app hln
      have hrow' : (ρ id).row = i.size := by rw [hB.row]; exact hrow
      by_cases hroom : n + m ≤ c'
      · have hpos : 0 < c' := by omega
        obtain rfl := (ha hgen).1 hpos
        have hcap := (ha hgen).2 hrow' hesz hpos
        rw [← h3] at hcap
        have hmul : (n + m) * i.size ≤ c' * i.size := Nat.mul_le_mul_right _ hroom
        rw [Nat.add_mul] at hmul
        have hnl := hnews.newsLen
        have hrun := run_append_room_src (P := P) w t tx ty e i ht hi (ρ id).blk ((ρ id).base + off) n c' x' m news hnews hroom (fun j hj => by simp [World.cell?, h1]; omega) (fun j hj => by simp [World.frozen?, h1])
        rw [setCells_heap P w _ _ news cs e1 h1 (by omega) hnews.one] at hrun
        obtain ⟨ρ', n1, n2, R, X⟩ := r.change hb hro { b with cells := (b.cells.drop off).take (n * i.size) ++ ys, gen := b.gen + 1 } hro ⟨(ρ id).blk, (ρ id).base + off, (ρ id).size, b.gen + 1, (ρ id).row⟩ rfl hB.row (Nat.le_succ _) (fun h => by simp at h) (.inl rfl)
          (w' := w.setRow (ρ id).blk (setSeg cs.toList ((ρ id).base + off + n * i.size) news).toArray) rfl rfl rfl (by simp [World.setRow]) (fun k _ hk => heap_setRow_other w _ _ k hk)
          (setSeg cs.toList ((ρ id).base + off + n * i.size) news).toArray e1 (setRow_heap w _ cs _ e1 (0, 0) h1) (by rw [← h3]; simp [setSeg]; omega) (fun j u hj => by
            obtain ⟨u', k1, k2⟩ := holds.get hj
            refine ⟨u', ?_, k2⟩
            dsimp only
            rw [List.getElem?_toArray, setSeg_get _ _ _ (by simp; omega)]
            rw [List.getElem?_append] at k1
            split at k1
            · rename_i hlt
              rw [if_neg (by omega)]
              have := o2 j u' k1
              simp only [World.cell?, h1] at this
              simpa using this
            · rename_i hlt
              have hj2 := (List.getElem?_eq_some_iff.1 k1).1
              rw [if_pos (by omega), ← k1]
              congr 1
              omega)
        refine ⟨_, _, ρ', hrun, ?_, R, X⟩
        refine .slice id 0 (b.gen + 1) (n + m) i.size c' _ (by simpa using hid) (by rw [n1]; exact Nat.le_refl _) hroom fun _ => ⟨fun _ => by rw [n1]; rfl, fun _ _ _ => ?_⟩
        rw [n1]
        simp only
        rw [← h3]
        exact hcap
      · have hnl := hnews.newsLen
        have hfc : (Builtin.firstCells i.size n (.slice (some a) n c')).run P w.drew = .ok olds.toArray w.drew := by
          refine run_firstCells_some w.drew i.size n a n c' olds o1 (fun j u hj => ?_)
          have hc0 : 0 < c' := by
            rcases Nat.eq_zero_or_pos c' with h | h
            · exfalso
              have hn0 : n = 0 := by omega
              rw [hn0, Nat.zero_mul] at o1
              have := (List.getElem?_eq_some_iff.1 hj).1
              omega
            · exact h
          rw [(ha hgen).1 hc0, Addr.add_lit, World.cell?_drew]
          exact o2 j u hj
        have hrun := run_append_grow_src (P := P) w t tx ty e i z ht hi hz (some a) n c' olds hfc x' m news hnews (by omega) (by omega) (growslice_fits (by omega) hby)
        have hcap := grownCap_ge w (n + m) c' e
        have rd : Rel w0 ρ H w.drew := r.world rfl rfl rfl rfl
        obtain ⟨ρ', n1, n2, R, X⟩ := rd.change hb hro { b with cells := (b.cells.drop off).take (n * i.size) ++ ys, gen := b.gen + 1 } hro
          ⟨w.heap.size, 0, ((olds ++ news).toArray ++ Builtin.zeroCells z.cells (grownCap w (n + m) c' e - (n + m))).size, b.gen + 1, (ρ id).row⟩ rfl hB.row (Nat.le_succ _) (fun h => by simp at h) (.inr (Nat.le_refl _))
          (w' := w.drew.alloc (.cells ((olds ++ news).toArray ++ Builtin.zeroCells z.cells (grownCap w (n + m) c' e - (n + m))) e)) rfl rfl rfl (by simp) (fun k hk _ => Below.heap_alloc w.drew _ k hk)
          ((olds ++ news).toArray ++ Builtin.zeroCells z.cells (grownCap w (n + m) c' e - (n + m))) e (by show (w.heap.push _)[w.heap.size]? = _; simp) rfl (fun j u hj => by
            obtain ⟨u', k1, k2⟩ := holds.get hj
            refine ⟨u', ?_, k2⟩
            have := (List.getElem?_eq_some_iff.1 k1).1
            rw [Nat.zero_add, Array.getElem?_append_left (by simpa using this)]
            simpa using k1)
        refine ⟨_, _, ρ', hrun, ?_, R, X⟩
        refine .slice id 0 (b.gen + 1) (n + m) i.size _ _ (by simpa using hid) (by rw [n1]; exact Nat.le_refl _) hcap fun _ => ⟨fun _ => by rw [n1], fun _ _ _ => ?_⟩
        rw [n1]
        simp only [Array.size_append, zeroCells_size, List.size_toArray, List.length_append, o1, hnews.newsLen, hzs]
        simp only [Nat.zero_add]
        rw [← Nat.add_mul, ← Nat.add_mul]
        have : n + m + (grownCap w (n + m) c' e - (n + m)) = grownCap w (n + m) c' e := by omega
        rw [this]
        exact Nat.le_refl _
  | _ => simp at h

end Go.Lev
