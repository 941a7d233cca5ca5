/- More rounds and deeper calls come to the same. -/
import Derived.Test.YtffclchaoifleaaGreatDoorLvE
set_option linter.unusedVariables false
set_option linter.unusedSimpArgs false
set_option linter.constructorNameAsVariable false

set_option linter.unusedVariables false
set_option linter.unusedSimpArgs false
namespace Go.Lev
open Go Go.RowKit

def TLe (T T' : Tab) : Prop := ∀ f fl args H r, T f fl args H = some r → T' f fl args H = some r

theorem step_mono {P : Program} {T T' : Tab} (hT : TLe T T') {fl : Nat} {env : Nat → Value} {H : Heap} {lo : LO} {r : Value × Heap} (h : lo.step P T fl env H = some r) : lo.step P T' fl env H = some r := by
  cases lo with
  | call f args =>
    have e : ∀ T : Tab, LO.step P T fl env H (.call f args) = (match evO env f with
      | .func (.func f) first captured => T f fl (first.toList ++ args.map (evO env) ++ captured.toList) H
      | _ => none) := fun T => rfl
    rw [e] at h ⊢
    generalize evO env f = v at h
    split at h
    · exact hT _ _ _ _ _ h
    · simp at h
  | callP l f args =>
    have e : ∀ T : Tab, LO.step P T fl env H (.callP l f args) = (match evO env f with
      | .func (.func f) first captured => if l.contains f then T f fl (first.toList ++ args.map (evO env) ++ captured.toList) H else none
      | _ => none) := fun T => rfl
    rw [e] at h ⊢
    generalize evO env f = v at h
    split at h
    · split at h
      · rename_i hc
        simp only [hc, if_true]
        exact hT _ _ _ _ _ h
      · simp at h
    · simp at h
  | _ => exact h

theorem rop_mono {P : Program} {T T' : Tab} (hT : TLe T T') {fl : Nat} {o : ROp} {st st' : St} (h : o.step P T fl st = some st') : o.step P T' fl st = some st' := by
  unfold ROp.step at h ⊢
  split at h
  · rename_i hg
    rw [if_pos hg]
    split at h
    · rename_i v H hs
      rw [step_mono hT hs]
      exact h
    · simp at h
  · rename_i hg
    rw [if_neg hg]
    exact h

theorem ops_mono {P : Program} {T T' : Tab} (hT : TLe T T') {fl : Nat} : ∀ {l : List ROp} {st st' : St}, runOps P T fl l st = some st' → runOps P T' fl l st = some st'
  | [], _, _, h => h
  | o :: l, st, st', h => by
    simp only [runOps] at h ⊢
    split at h
    · rename_i s hs
      rw [rop_mono hT hs]
      exact ops_mono hT h
    · simp at h

theorem iter_mono {f f' : St → Option (Ex × St)} (hf : ∀ st r, f st = some r → f' st = some r) : ∀ {k k' : Nat} {st : St} {r : Ex × St}, k ≤ k' → iter f k st = some r → iter f' k' st = some r
  | 0, _, _, _, _, h => by simp [iter] at h
  | k + 1, 0, _, _, hk, _ => by omega
  | k + 1, k' + 1, st, r, hk, h => by
    simp only [iter] at h ⊢
    split at h
    · rename_i s hs
      rw [hf _ _ hs]
      exact iter_mono hf (by omega) h
    · rename_i hs
      have := hf _ _ h
      rw [this]
      obtain ⟨e, s⟩ := r
      cases e with
      | normal => exact absurd h (hs s)
      | _ => rfl

theorem splitRun_mono {T T' : Tab} (hT : TLe T T') {fl idx : Nat} {rnd rnd' : Value → Heap → Option (Ex × Heap)} (hr : ∀ v H r, rnd v H = some r → rnd' v H = some r) {asep ad asave : Addr} :
    ∀ {k k' : Nat} {H : Heap} {r : Ex × Heap}, k ≤ k' → splitRun T fl idx rnd asep ad asave k H = some r → splitRun T' fl idx rnd' asep ad asave k' H = some r
  | 0, _, _, _, _, h => by simp [splitRun] at h
  | k + 1, 0, _, _, hk, _ => by omega
  | k + 1, k' + 1, H, r, hk, h => by
    simp only [splitRun] at h ⊢
    split at h
    case h_2 => simp at h
    rename_i s hs
    try simp only [hs]
    split at h
    case h_2 => simp at h
    rename_i i H1 hi
    rw [hT _ _ _ _ _ hi]
    try simp only
    split at h
    case h_2 => simp at h
    rename_i s1 hs1
    try simp only [hs1]
    split at h
    · rename_i hi0
      rw [if_pos hi0]
      exact hr _ _ _ h
    rename_i hi0
    rw [if_neg hi0]
    split at h
    case isFalse => simp at h
    rename_i hc
    rw [if_pos hc]
    split at h
    · rename_i H2 h2
      rw [hr _ _ _ h2]
      try simp only
      split at h
      case h_2 => simp at h
      rename_i s2 hs2
      try simp only [hs2]
      split at h
      case isFalse => simp at h
      rename_i hc2
      rw [if_pos hc2]
      split at h
      case h_2 => simp at h
      rename_i H3 h3
      try simp only [h3]
      exact splitRun_mono hT hr (by omega) h
    · rename_i hne
      rw [hr _ _ _ h]
      obtain ⟨e, Hx⟩ := r
      cases e with
      | normal => exact absurd h (hne Hx)
      | _ => rfl

theorem run_mono {P : Program} {T T' : Tab} (hT : TLe T T') {fl k k' : Nat} (hk : k ≤ k') : ∀ (c : LC) {st : St} {r : Ex × St}, c.run P T fl k st = some r → c.run P T' fl k' st = some r
  | .skip, _, _, h => h
  | .ret, _, _, h => h
  | .exit _, _, _, h => h
  | .region ops, st, r, h => by
    simp only [LC.run, Option.map_eq_some_iff] at h ⊢
    obtain ⟨s, h1, h2⟩ := h
    exact ⟨s, ops_mono hT h1, h2⟩
  | .seq a b, st, r, h => by
    simp only [LC.run] at h ⊢
    cases ha : a.run P T fl k st with
    | none => rw [ha] at h; simp at h
    | some x =>
      rw [ha] at h
      rw [run_mono hT hk a ha]
      obtain ⟨e, s⟩ := x
      cases e with
      | normal => exact run_mono hT hk b h
      | _ => exact h
  | .cond c a b, st, r, h => by
    simp only [LC.run] at h ⊢
    split at h
    · rename_i t e
      split at h
      · rename_i ht; rw [if_pos ht]; exact run_mono hT hk a h
      · rename_i ht; rw [if_neg ht]; exact run_mono hT hk b h
    · simp at h
  | .block id c, st, r, h => by
    simp only [LC.run] at h ⊢
    cases ha : c.run P T fl k st with
    | none => rw [ha] at h; simp at h
    | some x =>
      rw [ha] at h
      rw [run_mono hT hk c ha]
      exact h
  | .loop c, st, r, h => by
    simp only [LC.run] at h ⊢
    exact iter_mono (fun st r h => run_mono hT hk c h) hk h
  | .regionD ops prs, st, r, h => by
    simp only [LC.run] at h ⊢
    split at h
    · rename_i s hs
      rw [ops_mono hT hs]
      exact h
    · simp at h
  | .split kf idx g t x y, st, r, h => by
    simp only [LC.run] at h ⊢
    split at h
    case h_2 => simp at h
    rename_i f fs cs hev
    try simp only [hev]
    split at h
    case isFalse => simp at h
    rename_i hc
    rw [if_pos hc]
    split at h
    case h_2 => simp at h
    rename_i hcs
    try simp only [hcs]
    split at h
    case isFalse => simp at h
    rename_i hz
    rw [if_pos hz]
    simp only [Option.map_eq_some_iff] at h ⊢
    obtain ⟨r1, h1, h2⟩ := h
    refine ⟨r1, splitRun_mono hT (fun v H r hr => ?_) hk h1, h2⟩
    split at hr
    case h_2 => simp at hr
    rename_i s1 hs1
    rw [run_mono hT hk x hs1]
    try simp only
    split at hr
    case h_2 => simp at hr
    rename_i ex s2 hs2
    rw [run_mono hT hk y hs2]
    exact hr

theorem levFn_mono {P : Program} {T T' : Tab} (hT : TLe T T') {fl k k' : Nat} (hk : k ≤ k') {F : LFn} {args : List Value} {H : Heap} {r : Value × Heap} (h : levFn P T fl k F args H = some r) : levFn P T' fl k' F args H = some r := by
  unfold levFn at h ⊢
  split at h
  · rename_i hn
    rw [if_pos hn]
    cases hb : F.body.run P T fl k ⟨initEnv args, H⟩ with
    | none => rw [hb] at h; simp at h
    | some x =>
      rw [hb] at h
      rw [run_mono hT hk _ hb]
      exact h
  · simp at h

theorem mode_mono {F F' : Nat → List Value → Heap → Option (Value × Heap)} (hF : ∀ fl args H r, F fl args H = some r → F' fl args H = some r) {m fl : Nat} {args : List Value} {H : Heap} {r : Value × Heap} (h : modeFn m F fl args H = some r) : modeFn m F' fl args H = some r := by
  match m with
  | 0 => exact hF _ _ _ _ h
  | 1 =>
    simp only [modeFn, pureFn] at h ⊢
    cases hx : F H.length args H with
    | none => rw [hx] at h; simp at h
    | some x => rw [hx] at h; rw [hF _ _ _ _ hx]; exact h
  | 2 =>
    simp only [modeFn, scalarFn] at h ⊢
    cases hx : F H.length args H with
    | none => rw [hx] at h; simp at h
    | some x => rw [hx] at h; rw [hF _ _ _ _ hx]; exact h
  | _ + 3 =>
    simp only [modeFn, emptyFn] at h ⊢
    split at h
    · rename_i ha
      rw [if_pos ha]
      cases hx : F 0 args [] with
      | none => rw [hx] at h; simp at h
      | some x => rw [hx] at h; rw [hF _ _ _ _ hx]; exact h
    · simp at h

theorem tab_succ {P : Program} {base : Tab} {fns : FuncId → Option (LFn × Nat)} {k k' d d' : Nat} (hk : k ≤ k') (h : TLe (tabOf P base fns k d) (tabOf P base fns k' d')) : TLe (tabOf P base fns k (d + 1)) (tabOf P base fns k' (d' + 1)) := by
  intro f fl args H r hr
  simp only [tabOf] at hr ⊢
  split at hr
  · rename_i x hx
    obtain rfl := Option.some.inj hr
    rfl
  · rename_i hx
    split at hr
    · rename_i F m hF
      exact mode_mono (fun fl args H r hq => levFn_mono h hk hq) hr
    · simp at hr

theorem tab_mono {P : Program} {base : Tab} {fns : FuncId → Option (LFn × Nat)} {k k' : Nat} (hk : k ≤ k') : ∀ {d d' : Nat}, d ≤ d' → TLe (tabOf P base fns k d) (tabOf P base fns k' d')
  | 0, 0, _ => fun _ _ _ _ _ h => h
  | 0, d' + 1, _ => fun f fl args H r h => by
    have h0 : base f fl args H = some r := h
    exact tab_base h0
  | d + 1, 0, h => absurd h (by omega)
  | d + 1, d' + 1, h => tab_succ hk (tab_mono hk (by omega))
end Go.Lev


set_option linter.unusedVariables false
set_option linter.unusedSimpArgs false
namespace Go.Lev
open Go Go.RowKit

section
variable {A B : Prop} {b w : Bool} {p : Prop} [Decidable p]
theorem selB_byD (h1 : p → A) (h2 : ¬ p → B) : @selB (.bool (decide p)) ⟨A⟩ ⟨B⟩ := by
  by_cases h : p
  · rw [decide_eq_true h]; exact h1 h
  · rw [decide_eq_false h]; exact h2 h
theorem selB_byN (h1 : p → B) (h2 : ¬ p → A) : @selB (.bool (!decide p)) ⟨A⟩ ⟨B⟩ := by
  by_cases h : p
  · rw [decide_eq_true h]; exact h1 h
  · rw [decide_eq_false h]; exact h2 h
theorem selB_by (h1 : b = true → A) (h2 : b = false → B) : @selB (.bool b) ⟨A⟩ ⟨B⟩ := by
  cases b with
  | true => exact h1 rfl
  | false => exact h2 rfl
theorem selG_byD (h1 : p → @selG w (.bool true) ⟨A⟩ ⟨B⟩) (h2 : ¬ p → @selG w (.bool false) ⟨A⟩ ⟨B⟩) : @selG w (.bool (decide p)) ⟨A⟩ ⟨B⟩ := by
  by_cases h : p
  · rw [decide_eq_true h]; exact h1 h
  · rw [decide_eq_false h]; exact h2 h
theorem selG_byN (h1 : p → @selG w (.bool false) ⟨A⟩ ⟨B⟩) (h2 : ¬ p → @selG w (.bool true) ⟨A⟩ ⟨B⟩) : @selG w (.bool (!decide p)) ⟨A⟩ ⟨B⟩ := by
  by_cases h : p
  · rw [decide_eq_true h]; exact h1 h
  · rw [decide_eq_false h]; exact h2 h
theorem selG_by (h1 : b = true → @selG w (.bool true) ⟨A⟩ ⟨B⟩) (h2 : b = false → @selG w (.bool false) ⟨A⟩ ⟨B⟩) : @selG w (.bool b) ⟨A⟩ ⟨B⟩ := by
  cases b with
  | true => exact h1 rfl
  | false => exact h2 rfl
theorem pick_byD {H : Heap} {x y : Value} {Q : Value → Heap → Prop} (h1 : p → Q x H) (h2 : ¬ p → Q y H) : @andO (pickV H (.bool (decide p)) x y) ⟨Q⟩ := by
  by_cases h : p
  · rw [decide_eq_true h, pickV_true, andO_some]; exact h1 h
  · rw [decide_eq_false h, pickV_false, andO_some]; exact h2 h
theorem pick_byN {H : Heap} {x y : Value} {Q : Value → Heap → Prop} (h1 : p → Q y H) (h2 : ¬ p → Q x H) : @andO (pickV H (.bool (!decide p)) x y) ⟨Q⟩ := by
  by_cases h : p
  · rw [decide_eq_true h, Bool.not_true, pickV_false, andO_some]; exact h1 h
  · rw [decide_eq_false h, Bool.not_false, pickV_true, andO_some]; exact h2 h
theorem pick_by {H : Heap} {x y : Value} {Q : Value → Heap → Prop} (h1 : b = true → Q x H) (h2 : b = false → Q y H) : @andO (pickV H (.bool b) x y) ⟨Q⟩ := by
  cases b with
  | true => rw [pickV_true, andO_some]; exact h1 rfl
  | false => rw [pickV_false, andO_some]; exact h2 rfl
theorem selB_byM (h1 : b = true → B) (h2 : b = false → A) : @selB (.bool (!b)) ⟨A⟩ ⟨B⟩ := by
  cases b with
  | true => exact h1 rfl
  | false => exact h2 rfl
theorem selG_byM (h1 : b = true → @selG w (.bool false) ⟨A⟩ ⟨B⟩) (h2 : b = false → @selG w (.bool true) ⟨A⟩ ⟨B⟩) : @selG w (.bool (!b)) ⟨A⟩ ⟨B⟩ := by
  cases b with
  | true => exact h1 rfl
  | false => exact h2 rfl
theorem pick_byM {H : Heap} {x y : Value} {Q : Value → Heap → Prop} (h1 : b = true → Q y H) (h2 : b = false → Q x H) : @andO (pickV H (.bool (!b)) x y) ⟨Q⟩ := by
  cases b with
  | true => exact h1 rfl
  | false => exact h2 rfl
/-- A check that has to be shown. -/
theorem mapH_ite {H : Heap} {v : Value} {Q : Value → Heap → Prop} (h1 : p) (h2 : Q v H) : @andO (mapH H (if p then some v else none)) ⟨Q⟩ := by
  rw [if_pos h1, mapH_some, andO_some]; exact h2
theorem mapH_eq {H : Heap} {o : Option Value} {v : Value} {Q : Value → Heap → Prop} (h1 : o = some v) (h2 : Q v H) : @andO (mapH H o) ⟨Q⟩ := by
  rw [h1, mapH_some, andO_some]; exact h2
end

/-- What holds between two parts, the memory named. -/
theorem lwp_midH {P : Program} {T : Tab} {fl k : Nat} {Q : Ex → St → Prop} {st : St} {a b : LC} (H1 : Heap) (M : (Nat → Value) → Prop) (ha : wp P T fl k a (fun r s => thenQ r (s.heap = H1 ∧ M s.env) (Q r s)) st) (hb : ∀ env, M env → wp P T fl k b Q ⟨env, H1⟩) : wp P T fl k (.seq a b) Q st :=
  lwp_mid (fun s => s.heap = H1 ∧ M s.env) ha fun env H ⟨h1, h2⟩ => by
    have h1' : H = H1 := h1
    rw [h1']
    exact hb env h2
theorem lwp_midE {P : Program} {T : Tab} {fl k : Nat} {Q : Ex → St → Prop} {st : St} {a b : LC} (M : (Nat → Value) → Heap → Prop) (ha : wp P T fl k a (fun r s => thenQ r (M s.env s.heap) (Q r s)) st) (hb : ∀ env H, M env H → wp P T fl k b Q ⟨env, H⟩) : wp P T fl k (.seq a b) Q st :=
  lwp_mid (fun s => M s.env s.heap) ha hb
/-- A loop, by environment and memory. -/
theorem lwp_loopE {P : Program} {T : Tab} {fl k : Nat} {Q : Ex → St → Prop} {env : Nat → Value} {H : Heap} {c : LC} (I : Nat → (Nat → Value) → Heap → Prop) (n : Nat) (step : ∀ m env H, I m env H → m ≤ n → wp P T fl k c (fun r s => thenQ r (∃ m', m' < m ∧ I m' s.env s.heap) (Q r s)) ⟨env, H⟩) (h : I n env H) (hn : n < k) : wp P T fl k (.loop c) Q ⟨env, H⟩ := by
  suffices hh : ∀ (j m : Nat) env H, I m env H → m ≤ n → m < j → j ≤ k → ∃ r s, iter (c.run P T fl k) j ⟨env, H⟩ = some (r, s) ∧ Q r s by
    obtain ⟨r, s, h1, h2⟩ := hh k n env H h (Nat.le_refl _) hn (Nat.le_refl _)
    exact ⟨r, s, by simp only [LC.run, h1], h2⟩
  intro j
  induction j with
  | zero => intro m env H _ _ hm; omega
  | succ j ih =>
    intro m env H hI hmn hm hj
    obtain ⟨r, s, h1, h2⟩ := step m env H hI hmn
    cases r with
    | normal =>
      obtain ⟨m', hlt, hI'⟩ := h2
      obtain ⟨r', s', h3, h4⟩ := ih m' s.env s.heap hI' (by omega) (by omega) (by omega)
      exact ⟨r', s', by simp only [iter, h1]; exact h3, h4⟩
    | ret => exact ⟨_, _, by simp only [iter, h1], h2⟩
    | exit id => exact ⟨_, _, by simp only [iter, h1], h2⟩

/-- A loop of few rounds, round by round. -/
def unr (P : Program) (T : Tab) (fl k : Nat) : Nat → LC → (Ex → St → Prop) → St → Prop
  | 0, _, _, _ => False
  | n + 1, c, Q, st => wp P T fl k c (fun r s => thenQ r (unr P T fl k n c Q s) (Q r s)) st
@[congr] theorem unr_congr {P : Program} {T : Tab} {fl k n n' : Nat} {c : LC} {Q : Ex → St → Prop} {st : St} (h : n = n') : unr P T fl k n c Q st = unr P T fl k n' c Q st := by rw [h]
@[simp ↓] theorem unr_succ {P : Program} {T : Tab} {fl k n : Nat} {c : LC} {Q : Ex → St → Prop} {st : St} : unr P T fl k (n + 1) c Q st = wp P T fl k c (fun r s => thenQ r (unr P T fl k n c Q s) (Q r s)) st := notRfl rfl
theorem unr_iter {P : Program} {T : Tab} {fl k : Nat} {c : LC} {Q : Ex → St → Prop} : ∀ {n j : Nat} {st : St}, n ≤ j → unr P T fl k n c Q st → ∃ r s, iter (c.run P T fl k) j st = some (r, s) ∧ Q r s
  | 0, _, _, _, h => absurd h id
  | n + 1, 0, _, hn, _ => by omega
  | n + 1, j + 1, st, hn, h => by
    obtain ⟨r, s, h1, h2⟩ := h
    cases r with
    | normal =>
      obtain ⟨r', s', h3, h4⟩ := unr_iter (j := j) (by omega) h2
      exact ⟨r', s', by simp only [iter, h1]; exact h3, h4⟩
    | ret => exact ⟨_, _, by simp only [iter, h1], h2⟩
    | exit id => exact ⟨_, _, by simp only [iter, h1], h2⟩
theorem loop_unr {P : Program} {T : Tab} {fl k : Nat} {c : LC} {Q : Ex → St → Prop} {st : St} (n : Nat) (hn : n ≤ k) (h : unr P T fl k n c Q st) : wp P T fl k (.loop c) Q st := by
  obtain ⟨r, s, h1, h2⟩ := unr_iter hn h
  exact ⟨r, s, by simp only [LC.run, h1], h2⟩
/-- Rows that are read beside what came behind them. -/
theorem rdN_mono {H : Heap} {a : Addr} {n : Nat} {cs : List Value} (X : Heap) (h : rdN H a n = some cs) : rdN (H ++ X) a n = some cs := by
  unfold rdN at h ⊢
  cases hb : H[a.block]? with
  | none => rw [hb] at h; simp at h
  | some b =>
    have hl := (List.getElem?_eq_some_iff.1 hb).1
    rw [List.getElem?_append_left hl]
    exact h
theorem rd1_mono {H : Heap} {a : Addr} {v : Value} (X : Heap) (h : rd1 H a = some v) : rd1 (H ++ X) a = some v := by
  unfold rd1 at h ⊢
  cases hb : H[a.block]? with
  | none => rw [hb] at h; simp at h
  | some b =>
    have hl := (List.getElem?_eq_some_iff.1 hb).1
    rw [List.getElem?_append_left hl]
    exact h
/-- A part of a row. -/
theorem rdN_part {H : Heap} {b o : Nat} {s : Option Nat} {n : Nat} {cs : List Value} (h : rdN H ⟨b, o, s⟩ n = some cs) {i m : Nat} (him : i + m ≤ n) : rdN H ⟨b, o + i, s⟩ m = some ((cs.drop i).take m) := by
  unfold rdN at h ⊢
  simp only at h ⊢
  cases hb : H[b]? with
  | none => rw [hb] at h; simp at h
  | some bx =>
    rw [hb] at h
    simp only at h ⊢
    split at h
    · rename_i hc
      obtain rfl := Option.some.inj h
      rw [if_pos ⟨hc.1, by omega⟩]
      congr 1
      rw [List.drop_take, List.take_take, List.drop_drop]
      congr 1
      omega
    · simp at h
theorem rd1_part {H : Heap} {b o : Nat} {s : Option Nat} {n : Nat} {cs : List Value} (h : rdN H ⟨b, o, s⟩ n = some cs) {i : Nat} {v : Value} (hv : cs[i]? = some v) : rd1 H ⟨b, o + i, s⟩ = some v := by
  unfold rdN at h
  unfold rd1
  simp only at h ⊢
  cases hb : H[b]? with
  | none => rw [hb] at h; simp at h
  | some bx =>
    rw [hb] at h
    simp only at h ⊢
    split at h
    · rename_i hc
      obtain rfl := Option.some.inj h
      rw [if_pos hc.1]
      rw [List.getElem?_take] at hv
      split at hv
      · rw [List.getElem?_drop] at hv
        exact hv
      · simp at hv
    · simp at h
end Go.Lev


set_option linter.unusedVariables false
set_option linter.unusedSimpArgs false
namespace Go.Lev
open Go Go.RowKit

section
variable (H L : Heap) (j o n fl : Nat) (s : Option Nat) (vs : List Value)
@[simp] theorem rd1_app : rd1 (H ++ L) ⟨H.length + j, o, s⟩ = rd1 L ⟨j, o, s⟩ := by
  unfold rd1
  simp only
  rw [List.getElem?_append_right (by omega)]
  simp
@[simp] theorem rd1_app0 : rd1 (H ++ L) ⟨H.length, o, s⟩ = rd1 L ⟨0, o, s⟩ := rd1_app H L 0 o s
@[simp] theorem rdN_app : rdN (H ++ L) ⟨H.length + j, o, s⟩ n = rdN L ⟨j, o, s⟩ n := by
  unfold rdN
  simp only
  rw [List.getElem?_append_right (by omega)]
  simp
@[simp] theorem rdN_app0 : rdN (H ++ L) ⟨H.length, o, s⟩ n = rdN L ⟨0, o, s⟩ n := rdN_app H L 0 o n s
theorem wrN_app (h : fl ≤ H.length) : wrN fl (H ++ L) ⟨H.length + j, o, s⟩ vs = (wrN 0 L ⟨j, o, s⟩ vs).map (H ++ ·) := by
  unfold wrN
  simp only
  rw [List.getElem?_append_right (by omega)]
  simp only [Nat.add_sub_cancel_left, Nat.zero_le, true_and]
  cases hb : L[j]? with
  | none => simp
  | some b =>
    have hl : fl ≤ H.length + j := by omega
    simp only [hl, true_and]
    split
    · simp only [Option.map_some, Option.some.injEq]
      rw [List.set_append_right _ _ (by omega)]
      simp
    · simp
theorem wrN_app0 (h : fl ≤ H.length) : wrN fl (H ++ L) ⟨H.length, o, s⟩ vs = (wrN 0 L ⟨0, o, s⟩ vs).map (H ++ ·) := wrN_app H L 0 o fl s vs h
end

theorem storeV_app {H L : Heap} {j o n fl : Nat} {s : Option Nat} {x : Value} (h : fl ≤ H.length) : storeV fl n (H ++ L) (.pointer (some ⟨H.length + j, o, s⟩)) x = if x.cells.size = n then (wrN 0 L ⟨j, o, s⟩ x.cells.toList).map fun L' => (undef, H ++ L') else none := by
  unfold storeV
  simp only
  rw [wrN_app _ _ _ _ _ _ _ h]
  simp [Function.comp_def]
theorem storeV_app0 {H L : Heap} {o n fl : Nat} {s : Option Nat} {x : Value} (h : fl ≤ H.length) : storeV fl n (H ++ L) (.pointer (some ⟨H.length, o, s⟩)) x = if x.cells.size = n then (wrN 0 L ⟨0, o, s⟩ x.cells.toList).map fun L' => (undef, H ++ L') else none := storeV_app (j := 0) h

section
variable (b : Box) (L : Heap) (j o n : Nat) (s : Option Nat) (vs : List Value)
@[simp] theorem rd1_cons0 : rd1 (b :: L) ⟨0, o, s⟩ = if s = some b.gen then b.cells[o]? else none := notRfl rfl
@[simp] theorem rd1_consS : rd1 (b :: L) ⟨j + 1, o, s⟩ = rd1 L ⟨j, o, s⟩ := notRfl rfl
@[simp] theorem rdN_cons0 : rdN (b :: L) ⟨0, o, s⟩ n = if s = some b.gen ∧ o + n ≤ b.cells.length then some ((b.cells.drop o).take n) else none := notRfl rfl
@[simp] theorem rdN_consS : rdN (b :: L) ⟨j + 1, o, s⟩ n = rdN L ⟨j, o, s⟩ n := notRfl rfl
@[simp] theorem wrN_cons0 : wrN 0 (b :: L) ⟨0, o, s⟩ vs = if s = some b.gen ∧ b.ro = false ∧ o + vs.length ≤ b.cells.length ∧ vs.all Value.oneCell' = true then some ({ b with cells := setSeg b.cells o vs } :: L) else none := by
  simp [wrN]
@[simp] theorem wrN_consS : wrN 0 (b :: L) ⟨j + 1, o, s⟩ vs = (wrN 0 L ⟨j, o, s⟩ vs).map (b :: ·) := by
  simp only [wrN, List.getElem?_cons_succ, Nat.zero_le, true_and]
  cases L[j]? with
  | none => rfl
  | some c =>
    simp only
    split
    · simp
    · simp
@[simp] theorem setSeg0 (c : Value) (l : List Value) (v : Value) : setSeg (c :: l) 0 [v] = v :: l := by simp [setSeg]
@[simp] theorem setSegS (c : Value) (l : List Value) : setSeg (c :: l) (o + 1) vs = c :: setSeg l o vs := by simp [setSeg, Nat.add_right_comm]
@[simp] theorem setSeg0N (l : List Value) : setSeg l 0 vs = vs ++ l.drop vs.length := by simp [setSeg]
end
@[simp] theorem storeV_ptr (fl n : Nat) (H : Heap) (a : Addr) (x : Value) : storeV fl n H (.pointer (some a)) x = if x.cells.size = n then (wrN fl H a x.cells.toList).map fun H' => (undef, H') else none := notRfl rfl
@[simp] theorem cells_agg (cs : Array Value) : (Value.agg cs).cells = cs := notRfl rfl
@[simp] theorem cells_int (k : IntKind) (n : Int) : (Value.int k n).cells = #[.int k n] := notRfl rfl
@[simp] theorem cells_bool (b : Bool) : (Value.bool b).cells = #[.bool b] := notRfl rfl
@[simp] theorem cells_str (b : ByteArray) : (Value.string b).cells = #[.string b] := notRfl rfl
@[simp] theorem cells_slice (a : Option Addr) (n c : Nat) : (Value.slice a n c).cells = #[.slice a n c] := notRfl rfl
@[simp] theorem cells_ptr (a : Option Addr) : (Value.pointer a).cells = #[.pointer a] := notRfl rfl
@[simp] theorem cells_float (k : FloatKind) (n) : (Value.float k n).cells = #[.float k n] := notRfl rfl
@[simp] theorem one_int (k : IntKind) (n : Int) : Value.oneCell' (.int k n) = true := notRfl rfl
@[simp] theorem one_bool (b : Bool) : Value.oneCell' (.bool b) = true := notRfl rfl
@[simp] theorem one_str (b : ByteArray) : Value.oneCell' (.string b) = true := notRfl rfl
@[simp] theorem one_slice (a : Option Addr) (n c : Nat) : Value.oneCell' (.slice a n c) = true := notRfl rfl
@[simp] theorem one_ptr (a : Option Addr) : Value.oneCell' (.pointer a) = true := notRfl rfl
@[simp] theorem one_float (k : FloatKind) (n) : Value.oneCell' (.float k n) = true := notRfl rfl

@[simp] theorem bv_shl' (k j : IntKind) (a b : Int) (h : 0 ≤ b) : binV .shl (.int k a) (.int j b) = some (.int k (k.wrap (a * 2 ^ (min b.toNat k.bits)))) := bv_shl k j a b h
@[simp] theorem bv_shr' (k j : IntKind) (a b : Int) (h : 0 ≤ b) : binV .shr (.int k a) (.int j b) = some (.int k (a.fdiv (2 ^ (min b.toNat k.bits)))) := bv_shr k j a b h
@[simp] theorem scT_tuple (vs : Array Value) : isScT (.tuple vs) = vs.toList.all isSc := notRfl rfl
@[simp] theorem scT_int (k : IntKind) (n : Int) : isScT (.int k n) = true := notRfl rfl
@[simp] theorem scT_bool (b : Bool) : isScT (.bool b) = true := notRfl rfl
@[simp] theorem scT_str (b : ByteArray) : isScT (.string b) = true := notRfl rfl
@[simp] theorem scT_float (k : FloatKind) (n) : isScT (.float k n) = true := notRfl rfl
@[simp] theorem scT_agg (cs : Array Value) : isScT (.agg cs) = cs.all isSc0 := notRfl rfl
@[simp] theorem sc_int (k : IntKind) (n : Int) : isSc (.int k n) = true := notRfl rfl
@[simp] theorem sc_bool (b : Bool) : isSc (.bool b) = true := notRfl rfl
@[simp] theorem sc_str (b : ByteArray) : isSc (.string b) = true := notRfl rfl
@[simp] theorem sc_float (k : FloatKind) (n) : isSc (.float k n) = true := notRfl rfl
@[simp] theorem sc_agg (cs : Array Value) : isSc (.agg cs) = cs.all isSc0 := notRfl rfl
@[simp] theorem sc0_int (k : IntKind) (n : Int) : isSc0 (.int k n) = true := notRfl rfl
@[simp] theorem sc0_bool (b : Bool) : isSc0 (.bool b) = true := notRfl rfl
@[simp] theorem sc0_str (b : ByteArray) : isSc0 (.string b) = true := notRfl rfl
@[simp] theorem sc0_float (k : FloatKind) (n) : isSc0 (.float k n) = true := notRfl rfl
@[simp] theorem sc0_nil : isSc0 .nilIface = true := notRfl rfl
@[simp] theorem sc_nil : isSc .nilIface = true := notRfl rfl
@[simp] theorem ix1V_agg (len : Nat) (cs : Array Value) (k : IntKind) (n : Int) : ix1V len (.agg cs) (.int k n) = if 0 ≤ n ∧ n < (len : Int) then cs[n.toNat]? else none := notRfl rfl
@[simp] theorem iadSV_slice (esz : Nat) (a : Addr) (len c : Nat) (k : IntKind) (n : Int) : iadSV esz (.slice (some a) len c) (.int k n) = if 0 ≤ n ∧ n < (len : Int) then some (.pointer (some ⟨a.block, a.off + n.toNat * esz, a.spot⟩)) else none := notRfl rfl
@[simp] theorem iadAV_ptr (len esz : Nat) (a : Addr) (k : IntKind) (n : Int) : iadAV len esz (.pointer (some a)) (.int k n) = if 0 ≤ n ∧ n < (len : Int) then some (.pointer (some ⟨a.block, a.off + n.toNat * esz, a.spot⟩)) else none := notRfl rfl
@[simp] theorem fldNV_agg (off n : Nat) (cs : Array Value) : fldNV off n (.agg cs) = some (.agg (cs.extract off (off + n))) := notRfl rfl
section
variable {P : Program} {T : Tab} {fl : Nat} {env : Nat → Value} {H : Heap}
def ixNV (len sz : Nat) : Value → Value → Option Value
  | .agg cs, .int _ n => if 0 ≤ n ∧ n < (len : Int) then some (.agg (cs.extract (n.toNat * sz) (n.toNat * sz + sz))) else none
  | _, _ => none
@[simp ↓] theorem st_ixN (len sz : Nat) (x i : Operand) : LO.step P T fl env H (.ixN len sz x i) = mapH H (ixNV len sz (evO env x) (evO env i)) := by
  simp only [LO.step]
  cases evO env x <;> cases evO env i <;> simp only [ixNV, mapH]
  split <;> rfl
@[simp] theorem ixNV_agg (len sz : Nat) (cs : Array Value) (k : IntKind) (n : Int) : ixNV len sz (.agg cs) (.int k n) = if 0 ≤ n ∧ n < (len : Int) then some (.agg (cs.extract (n.toNat * sz) (n.toNat * sz + sz))) else none := notRfl rfl
def mnV : Value → Value → Option Value
  | .int k a, .int _ b => some (.int k (if b < a then b else a))
  | _, _ => none
def mxV : Value → Value → Option Value
  | .int k a, .int _ b => some (.int k (if b > a then b else a))
  | _, _ => none
@[simp ↓] theorem st_mn (x y : Operand) : LO.step P T fl env H (.mn x y) = mapH H (mnV (evO env x) (evO env y)) := by
  simp only [LO.step]
  cases evO env x <;> cases evO env y <;> rfl
@[simp ↓] theorem st_mx (x y : Operand) : LO.step P T fl env H (.mx x y) = mapH H (mxV (evO env x) (evO env y)) := by
  simp only [LO.step]
  cases evO env x <;> cases evO env y <;> rfl
@[simp] theorem mnV_int (k j : IntKind) (a b : Int) : mnV (.int k a) (.int j b) = some (.int k (if b < a then b else a)) := notRfl rfl
@[simp] theorem mxV_int (k j : IntKind) (a b : Int) : mxV (.int k a) (.int j b) = some (.int k (if a < b then b else a)) := notRfl rfl
def bndV (d : Nat) : Option Value → Option Nat
  | none => some d
  | some (.int _ n) => if 0 ≤ n then some n.toNat else none
  | _ => none
theorem bnd_V (d : Nat) (o : Option Operand) : bnd env d o = bndV d (o.map (evO env)) := by
  cases o with
  | none => rfl
  | some x => simp only [bnd, Option.map_some]; cases evO env x <;> rfl
@[simp] theorem bndV_none (d : Nat) : bndV d none = some d := notRfl rfl
@[simp] theorem bndV_some (d : Nat) (k : IntKind) (n : Int) : bndV d (some (.int k n)) = if 0 ≤ n then some n.toNat else none := notRfl rfl
/-- A part of a row. -/
def slcV (esz : Nat) (x : Value) (lo hi mc : Option Value) : Option Value := match x with
  | .slice a n c => match bndV 0 lo, bndV n hi, bndV n mc with
    | some l, some h, some m => if l ≤ h ∧ h ≤ n ∧ h ≤ m ∧ m ≤ n ∧ (c = esz ∨ a.isNone) then some (.slice (a.map fun a => ⟨a.block, a.off + l * esz, a.spot⟩) (h - l) c) else none
    | _, _, _ => none
  | _ => none
@[simp ↓] theorem st_slc (esz : Nat) (x : Operand) (lo hi mc : Option Operand) : LO.step P T fl env H (.slc esz x lo hi mc) = mapH H (slcV esz (evO env x) (lo.map (evO env)) (hi.map (evO env)) (mc.map (evO env))) := by
  simp only [LO.step, slcV, bnd_V]
  cases evO env x <;> try rfl
  rename_i a n c
  simp only
  cases bndV 0 (Option.map (evO env) lo) <;> try rfl
  cases bndV n (Option.map (evO env) hi) <;> try rfl
  cases bndV n (Option.map (evO env) mc) <;> try rfl
  simp only
  split <;> rfl
def slcAV (len esz : Nat) (x : Value) (lo hi : Option Value) : Option Value := match x with
  | .pointer (some a) => match bndV 0 lo, bndV len hi with
    | some l, some h => if l ≤ h ∧ h ≤ len then some (.slice (some ⟨a.block, a.off + l * esz, a.spot⟩) (h - l) 0) else none
    | _, _ => none
  | _ => none
@[simp ↓] theorem st_slcA (len esz : Nat) (x : Operand) (lo hi : Option Operand) : LO.step P T fl env H (.slcA len esz x lo hi) = mapH H (slcAV len esz (evO env x) (lo.map (evO env)) (hi.map (evO env))) := by
  simp only [LO.step, slcAV, bnd_V]
  cases evO env x <;> try rfl
  rename_i a
  cases a <;> try rfl
  simp only
  cases bndV 0 (Option.map (evO env) lo) <;> try rfl
  cases bndV len (Option.map (evO env) hi) <;> try rfl
  simp only
  split <;> rfl
def convIFV (k : FloatKind) : Value → Option Value
  | .int _ n => some (.float k (k.nearest n))
  | _ => none
@[simp ↓] theorem st_convIF (k : FloatKind) (x : Operand) : LO.step P T fl env H (.convIF k x) = mapH H (convIFV k (evO env x)) := by
  simp only [LO.step, convIFV]; cases evO env x <;> rfl
@[simp] theorem convIFV_int (k : FloatKind) (j : IntKind) (n : Int) : convIFV k (.int j n) = some (.float k (k.nearest n)) := notRfl rfl
end
@[simp] theorem bits_i64 : IntKind.i64.bits = 64 := notRfl rfl
@[simp] theorem bits_u64 : IntKind.u64.bits = 64 := notRfl rfl
@[simp] theorem bits_u32 : IntKind.u32.bits = 32 := notRfl rfl
@[simp] theorem bits_i32 : IntKind.i32.bits = 32 := notRfl rfl
@[simp] theorem bits_u16 : IntKind.u16.bits = 16 := notRfl rfl
@[simp] theorem bits_i16 : IntKind.i16.bits = 16 := notRfl rfl
@[simp] theorem bits_u8 : IntKind.u8.bits = 8 := notRfl rfl
@[simp] theorem bits_i8 : IntKind.i8.bits = 8 := notRfl rfl
@[simp] theorem wrap_i64_id {x : Int} (h0 : -9223372036854775808 ≤ x) (h1 : x ≤ 9223372036854775807) : IntKind.i64.wrap x = x := by
  simp only [IntKind.wrap_i64]; omega
@[simp] theorem wrap_u64_id {x : Int} (h0 : 0 ≤ x) (h1 : x ≤ 18446744073709551615) : IntKind.u64.wrap x = x := by
  simp only [IntKind.wrap_u64]; omega
@[simp] theorem wrap_u8_id {x : Int} (h0 : 0 ≤ x) (h1 : x ≤ 255) : IntKind.u8.wrap x = x := by
  simp only [IntKind.wrap_u8]; omega
theorem sadd_by {H : Heap} {l m : List UInt8} {Q : Value → Heap → Prop} (h : l.length + m.length ≤ 4611686018427387904) (h2 : Q (strV (l ++ m)) H) : @andO (mapH H (binV .add (strV l) (strV m))) ⟨Q⟩ := by
  rw [bv_sadd l m h, mapH_some, andO_some]; exact h2
/-- A slice that may be handed back. -/
def ownSl (N c : Nat) (H : Heap) (v : Value) (cs : List Value) (n : Nat) : Prop := (v = .slice none 0 0 ∧ n = 0 ∧ cs = []) ∨ ∃ b o g bx, v = .slice (some ⟨b, o, some g⟩) n c ∧ N ≤ b ∧ H[b]? = some bx ∧ bx.row = c ∧ bx.ro = false ∧ rdN H ⟨b, o, some g⟩ (n * c) = some cs ∧ cs.all isSc0 = true ∧ n ≠ 0
/-- What is handed back of it, behind a memory of N boxes. -/
def slV (N n c : Nat) : Value := if n = 0 then .slice none 0 0 else .slice (some ⟨N, 0, some 0⟩) n c
def slH (n c : Nat) (cs : List Value) : Heap := if n = 0 then [] else [{ cells := cs, gen := 0, row := c }]
@[simp] theorem own_app {H L : Heap} {c j o g n n' c' : Nat} {cs : List Value} : ownSl H.length c (H ++ L) (.slice (some ⟨H.length + j, o, some g⟩) n c') cs n' ↔ n = n' ∧ c' = c ∧ n ≠ 0 ∧ rdN L ⟨j, o, some g⟩ (n * c) = some cs ∧ cs.all isSc0 = true ∧ ∃ bx, L[j]? = some bx ∧ bx.row = c ∧ bx.ro = false := by
  constructor
  · rintro (⟨h, _⟩ | ⟨b, o', g', bx, h, h1, h2, h3, h4, h5, h6, h7⟩)
    · cases h
    · simp only [Value.slice.injEq, Option.some.injEq, Addr.mk.injEq] at h
      obtain ⟨⟨rfl, rfl, rfl⟩, rfl, rfl⟩ := h
      rw [List.getElem?_append_right (by omega)] at h2
      refine ⟨rfl, rfl, h7, by rw [← rdN_app H]; exact h5, h6, bx, by simpa using h2, h3, h4⟩
  · rintro ⟨rfl, rfl, h7, h5, h6, bx, h2, h3, h4⟩
    refine .inr ⟨_, _, _, bx, rfl, by omega, ?_, h3, h4, by rw [rdN_app]; exact h5, h6, h7⟩
    rw [List.getElem?_append_right (by omega)]
    simpa using h2
@[simp] theorem own_app0 {H L : Heap} {c o g n n' c' : Nat} {cs : List Value} : ownSl H.length c (H ++ L) (.slice (some ⟨H.length, o, some g⟩) n c') cs n' ↔ n = n' ∧ c' = c ∧ n ≠ 0 ∧ rdN L ⟨0, o, some g⟩ (n * c) = some cs ∧ cs.all isSc0 = true ∧ ∃ bx, L[0]? = some bx ∧ bx.row = c ∧ bx.ro = false := own_app (j := 0)
@[simp] theorem own_nil {N c n n' c' : Nat} {H : Heap} {cs : List Value} : ownSl N c H (.slice none n c') cs n' ↔ n = 0 ∧ c' = 0 ∧ n' = 0 ∧ cs = [] := by
  constructor
  · rintro (⟨h, h2, h3⟩ | ⟨b, o', g', bx, h, _⟩)
    · simp only [Value.slice.injEq] at h
      exact ⟨h.2.1, h.2.2, h2, h3⟩
    · cases h
  · rintro ⟨rfl, rfl, rfl, rfl⟩
    exact .inl ⟨rfl, rfl, rfl⟩
theorem gc_own {H H' : Heap} {v : Value} {cs : List Value} {n c : Nat} (h : ownSl H.length c H' v cs n) : gcRes H H' v = some (slV H.length n c, H ++ slH n c cs) := by
  rcases h with ⟨rfl, rfl, rfl⟩ | ⟨b, o, g, bx, rfl, h1, h2, h3, h4, h5, h6, h7⟩
  · simp [gcRes, gcOne, isSc, isSc0, slV, slH]
  · have h8 : ¬ b < H.length := by omega
    simp [gcRes, gcOne, isSc, isSc0, slV, slH, h2, h3, h4, h5, h6, h7, h8]
theorem tab_own {P : Program} {base : Tab} {fns : FuncId → Option (LFn × Nat)} {k d : Nat} {f : FuncId} {fl : Nat} {args : List Value} {H : Heap} {F : LFn} {cs : List Value} {n c : Nat} (hb : base f fl args H = none) (hf : fns f = some (F, 1)) (hn : args.length ≤ F.nt)
    (h : wp P (tabOf P base fns k d) H.length k F.body (fun r s => (r = .ret ∨ r = .normal) ∧ ∃ v, retQ F.results v s ∧ ownSl H.length c s.heap v cs n) ⟨initEnv args, H⟩) : tabOf P base fns k (d + 1) f fl args H = some (slV H.length n c, H ++ slH n c cs) := by
  obtain ⟨r, s, h1, h2, v, h3, h4⟩ := h
  have hl : levFn P (tabOf P base fns k d) H.length k F args H = some (v, s.heap) := by
    obtain ⟨l, h5, h6⟩ := Option.map_eq_some_iff.1 h3
    subst h6
    unfold levFn
    rw [if_pos hn, h1]
    rcases h2 with rfl | rfl <;> simp only [h5, Option.map_some]
  simp only [tabOf, hb, hf, modeFn, pureFn, hl]
  exact gc_own h4
/-- A value's cells, as a list. -/
def cellsL (v : Value) : List Value := match v with
  | .agg cs => cs.toList
  | v => [v]
end Go.Lev


set_option linter.unusedVariables false
set_option linter.unusedSimpArgs false
namespace Go.Lev
open Go Go.RowKit

/-- A slice that was grown from nil: n elements of esz cells, in a box from N on. -/
def accV (esz N : Nat) (H : Heap) (v : Value) (cs : List Value) (n : Nat) : Prop :=
  (v = .slice none 0 0 ∧ n = 0 ∧ cs = []) ∨ (∃ b g bx, v = .slice (some ⟨b, 0, some g⟩) n esz ∧ N ≤ b ∧ H[b]? = some bx ∧ bx.gen = g ∧ bx.row = esz ∧ bx.ro = false ∧ bx.cells = cs ∧ cs.length = n * esz ∧ n ≠ 0)

theorem accV_nil (esz N : Nat) (H : Heap) : accV esz N H (.slice none 0 0) [] 0 := .inl ⟨rfl, rfl, rfl⟩
theorem accV_len {esz N n : Nat} {H : Heap} {v : Value} {cs : List Value} (h : accV esz N H v cs n) : cs.length = n * esz := by
  rcases h with ⟨_, rfl, rfl⟩ | ⟨_, _, _, _, _, _, _, _, _, _, h, _⟩
  · simp
  · exact h
theorem accV_mono {esz N n : Nat} {H : Heap} {v : Value} {cs : List Value} (h : accV esz N H v cs n) (X : Heap) : accV esz N (H ++ X) v cs n := by
  rcases h with h | ⟨b, g, bx, h1, h2, h3, h4⟩
  · exact .inl h
  · refine .inr ⟨b, g, bx, h1, h2, ?_, h4⟩
    rw [List.getElem?_append_left (List.getElem?_eq_some_iff.1 h3).1]
    exact h3
theorem accV_own {esz N n : Nat} {H : Heap} {v : Value} {cs : List Value} (h : accV esz N H v cs n) (hc : cs.all isSc0 = true) : ownSl N esz H v cs n := by
  rcases h with h | ⟨b, g, bx, h1, h2, h3, rfl, h5, h6, rfl, h8, h9⟩
  · exact .inl h
  · refine .inr ⟨b, 0, bx.gen, bx, h1, h2, h3, h5, h6, ?_, hc, h9⟩
    unfold rdN
    simp only [h3, true_and, Nat.zero_add, h8, Nat.le_refl, if_true, List.drop_zero]
    rw [List.take_of_length_le (by rw [h8]; exact Nat.le_refl _)]
theorem accV_rd {esz N n : Nat} {H : Heap} {v : Value} {cs : List Value} (h : accV esz N H v cs n) (hn : n ≠ 0) : ∃ b g, v = .slice (some ⟨b, 0, some g⟩) n esz ∧ N ≤ b ∧ b < H.length ∧ rdN H ⟨b, 0, some g⟩ (n * esz) = some cs := by
  rcases h with h | ⟨b, g, bx, h1, h2, h3, rfl, h5, h6, rfl, h8, h9⟩
  · exact absurd h.2.1 hn
  · refine ⟨b, bx.gen, h1, h2, (List.getElem?_eq_some_iff.1 h3).1, ?_⟩
    unfold rdN
    simp only [h3, true_and, Nat.zero_add, h8, Nat.le_refl, if_true, List.drop_zero]
    rw [List.take_of_length_le (by rw [h8]; exact Nat.le_refl _)]
theorem accV_lenS {esz N n : Nat} {H : Heap} {v : Value} {cs : List Value} (h : accV esz N H v cs n) : lenSV v = some (.int .i64 n) := by
  rcases h with ⟨rfl, rfl, rfl⟩ | ⟨b, g, bx, rfl, _⟩ <;> rfl

theorem app_acc {fl esz bytes N n m : Nat} {H : Heap} {v x : Value} {cs ys : List Value} (h : accV esz N H v cs n) (hN : fl ≤ N) (hNl : N ≤ H.length) (hx : srcCells esz H x = some (ys, m)) (hys : ys.length = m * esz) (hone : ys.all Value.oneCell' = true) (hm : m ≠ 0) (he : esz ≠ 0)
    (hb : (n + m) * bytes ≤ 140737488355328) (hb2 : n + m ≤ 140737488355328) :
    ∃ v' H', appV fl esz bytes H v x = some (v', H') ∧ accV esz N H' v' (cs ++ ys) (n + m) ∧ (∀ j, j < N → H'[j]? = H[j]?) ∧ H.length ≤ H'.length := by
  have h1 : ¬ (esz = 0 ∨ ys.all Value.oneCell' = false) := by simp [he, hone]
  rcases h with ⟨rfl, rfl, rfl⟩ | ⟨b, g, bx, rfl, h2, h3, h4, h5, h6, rfl, h8, h9⟩
  · refine ⟨_, _, by simp only [appV, hx]; rw [if_neg h1, if_neg hm, if_pos ⟨by simpa using hb, by simpa using hb2⟩], .inr ⟨H.length, 0, _, by simp, hNl, by simp; rfl, rfl, rfl, rfl, by simp, by simpa using hys, by omega⟩, fun j hj => by rw [List.getElem?_append_left (by omega)], by simp⟩
  · have hle : fl ≤ b := Nat.le_trans hN h2
    have hlt := (List.getElem?_eq_some_iff.1 h3).1
    subst h4
    have e : appV fl esz bytes H (.slice (some ⟨b, 0, some bx.gen⟩) n esz) x = some (.slice (some ⟨b, 0, some (bx.gen + 1)⟩) (n + m) esz, H.set b { bx with cells := (bx.cells.drop 0).take (n * esz) ++ ys, gen := bx.gen + 1 }) := by
      simp only [appV, hx, h3]
      rw [if_neg h1, if_pos ⟨trivial, trivial, h5, h6, hle, by omega, hb, hb2⟩, if_neg hm]
    refine ⟨_, _, e, .inr ⟨b, bx.gen + 1, { bx with cells := (bx.cells.drop 0).take (n * esz) ++ ys, gen := bx.gen + 1 }, rfl, h2, by rw [List.getElem?_set_self hlt], rfl, h5, h6, ?_, ?_, by omega⟩, fun j hj => ?_, by simp⟩
    · simp [← h8]
    · rw [List.length_append, h8, hys, Nat.add_mul]
    · rw [List.getElem?_set_ne (by omega)]
theorem src_marker (esz n : Nat) (H : Heap) (l : List Value) (h : l.length = n * esz) : srcCells esz H (marker n l) = some (l, n) := by
  simp [srcCells, marker, h]
/-- One text more. -/
theorem app_str {fl N n : Nat} {H : Heap} {v : Value} {cs : List Value} {s : ByteArray} (h : accV 1 N H v cs n) (hN : fl ≤ N) (hNl : N ≤ H.length) (hb : n ≤ 1000000000) :
    ∃ v' H', appV fl 1 16 H v (marker 1 [.string s]) = some (v', H') ∧ accV 1 N H' v' (cs ++ [.string s]) (n + 1) ∧ (∀ j, j < N → H'[j]? = H[j]?) ∧ H.length ≤ H'.length :=
  app_acc h hN hNl (src_marker 1 1 H [.string s] rfl) rfl rfl (by decide) (by decide) (by omega) (by omega)
/-- A call of a function that is a value. -/
def callV (T : Tab) (fl : Nat) (H : Heap) (f : Value) (args : List Value) : Option (Value × Heap) := match f with
  | .func (.func f) first captured => T f fl (first.toList ++ args ++ captured.toList) H
  | _ => none
@[simp ↓] theorem st_callT {P : Program} {T : Tab} {fl : Nat} {env : Nat → Value} {H : Heap} (t : Nat) (args : List Operand) : LO.step P T fl env H (.call (.tmp t) args) = callV T fl H (evO env (.tmp t)) (args.map (evO env)) := notRfl rfl
@[simp] theorem callV_func (T : Tab) (fl : Nat) (H : Heap) (f : FuncId) (a b : Array Value) (args : List Value) : callV T fl H (.func (.func f) a b) args = T f fl (a.toList ++ args ++ b.toList) H := notRfl rfl
/-- One of several results. -/
def resQ (r : LRes) (x : Value) (s : St) : Prop := evRes s r = some x
@[simp ↓] theorem resQ_tmp (t : Nat) (x : Value) (env : Nat → Value) (H : Heap) : resQ (.tmp t) x ⟨env, H⟩ = (evO env (.tmp t) = x) := by simp [resQ, evRes, evO]
@[simp ↓] theorem resQ_cell (t : Nat) (x : Value) (env : Nat → Value) (H : Heap) : resQ (.cell1 t) x ⟨env, H⟩ = (∃ a, evO env (.tmp t) = .pointer (some a) ∧ rd1 H a = some x) := by
  simp only [resQ, evRes, evO]
  cases h : env t with
  | pointer p => cases p <;> simp
  | _ => simp
@[simp ↓] theorem resQ_cellN (t n : Nat) (x : Value) (env : Nat → Value) (H : Heap) : resQ (.cellN t n) x ⟨env, H⟩ = (∃ a cs, evO env (.tmp t) = .pointer (some a) ∧ rdN H a n = some cs ∧ .agg cs.toArray = x) := by
  simp only [resQ, evRes, evO]
  cases h : env t with
  | pointer p => cases p <;> simp
  | _ => simp
theorem retQ_pair (r1 r2 : LRes) (v : Value) (s : St) : retQ [r1, r2] v s = (∃ x y, resQ r1 x s ∧ resQ r2 y s ∧ Value.tuple #[x, y] = v) := by
  simp only [retQ, evAll, resQ]
  cases h1 : evRes s r1 with
  | none => simp
  | some x => cases h2 : evRes s r2 <;> simp [packRes]
theorem retQ_three (r1 r2 r3 : LRes) (v : Value) (s : St) : retQ [r1, r2, r3] v s = (∃ x y z, resQ r1 x s ∧ resQ r2 y s ∧ resQ r3 z s ∧ Value.tuple #[x, y, z] = v) := by
  simp only [retQ, evAll, resQ]
  cases h1 : evRes s r1 with
  | none => simp
  | some x =>
    cases h2 : evRes s r2 with
    | none => simp
    | some y => cases h3 : evRes s r3 <;> simp [packRes]
theorem heap2 {H : Heap} {b0 b1 : Box} (h0 : H[0]? = some b0) (h1 : H[1]? = some b1) : ∃ X, H = b0 :: b1 :: X := by
  match H, h0, h1 with
  | a :: b :: X, h0, h1 => simp at h0 h1; exact ⟨X, by rw [h0, h1]⟩
end Go.Lev
