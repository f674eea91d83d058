/- Texts merged into one, for the number of files a claim may have: DnI. -/
import Derived.Test.YthfibggbipkmfaaGreatDX19
import Derived.Test.YthfibggbipkmfaaGreatDX22
import Derived.Test.YthfibggbipkmfaaGreatDX24
namespace Go.Proofs.YthfibggbipkmfaaGreat
open Go.RowKit Go.Fb
set_option linter.unusedVariables false
theorem segs_one (X : GS) (R : List (Nat → Int)) : segsG [([], R)] X = recsG X R := by
  have hp : ∀ (X : GS), planG X [] = (0, X) := fun X => by unfold planG; exact if_pos rfl
  have hs : ∀ (X : GS) R, segG X [] R = recsG X R := fun X R => by unfold segG; rw [hp]; simp
  unfold segsG
  simp only [hs]
  split
  · rfl
  · rename_i h
    unfold segsG
    have h : (recsG X R).1 = 0 := Decidable.not_not.1 h
    rw [← h]
/-- Graphs that are one, but for tasks and routes. -/
structure LikeG (L K : List Nd) : Prop where
  find : ∀ c, (findN L c).map (fun x => (x.kind, x.pg)) = (findN K c).map (fun x => (x.kind, x.pg))
  kids : ∀ c, childN L c = childN K c
theorem LikeG.refl (L : List Nd) : LikeG L L := ⟨fun _ => rfl, fun _ => rfl⟩
theorem LikeG.trans {L K N : List Nd} (h : LikeG L K) (g : LikeG K N) : LikeG L N := ⟨fun c => (h.find c).trans (g.find c), fun c => (h.kids c).trans (g.kids c)⟩
theorem LikeG.symm {L K : List Nd} (h : LikeG L K) : LikeG K L := ⟨fun c => (h.find c).symm, fun c => (h.kids c).symm⟩
theorem like_norm (L : List Nd) : LikeG L (normL L) := ⟨fun c => by rw [findN_norm], fun c => (child_perm (normL_perm L) c).symm⟩
theorem find_map {f : Nd → Nd} (hf : ∀ n, (f n).id = n.id) (N : List Nd) (c : Int) : findN (N.map f) c = (findN N c).map f := by
  unfold findN
  rw [List.find?_map]
  congr 2
  funext n
  simp [Function.comp, hf]
theorem like_map {f : Nd → Nd} (hf : ∀ n, (f n).id = n.id) (hr : ∀ n, (f n).fr = n.fr) (hk : ∀ n, (f n).kind = n.kind ∧ (f n).pg = n.pg) (N : List Nd) : LikeG N (N.map f) := by
  refine ⟨fun c => ?_, fun c => ?_⟩
  · rw [find_map hf, Option.map_map]
    congr 1
    funext n
    simp [Function.comp, (hk n).1, (hk n).2]
  · refine rises_eq (childN_rises _ _) (childN_rises _ _) fun x => ?_
    rw [childN_mem, childN_mem]
    constructor
    · rintro ⟨n, hn, e, h⟩
      exact ⟨f n, List.mem_map_of_mem hn, by rw [hf]; exact e, by rw [hr]; exact h⟩
    · rintro ⟨n, hn, e, h⟩
      obtain ⟨m, hm, rfl⟩ := List.mem_map.1 hn
      exact ⟨m, hm, by rw [← hf]; exact e, by rw [← hr]; exact h⟩
theorem like_route {L : List Nd} {s : Stp} (h4 : s.kind = 4) (h : (stepN L s).1 = 0) : LikeG L (stepN L s).2 := by
  unfold stepN at h ⊢
  split at h
  · cases h
  rename_i hc
  rw [if_neg hc]
  split at h
  · cases h
  rename_i hk
  rw [if_neg hk]
  unfold endN at h ⊢
  split at h
  · exact absurd h ‹_›
  rename_i h1
  rw [if_neg h1]
  split at h
  · exact absurd h ‹_›
  rename_i h2
  rw [if_neg h2]
  refine ((like_norm L).trans ?_).trans (like_norm _)
  have h1 : (chgN (normL L) s).1 = 0 := Decidable.not_not.1 h1
  clear h2 h
  unfold chgN at h1 ⊢
  cases hf : findN (normL L) s.nd.id with
  | none => rw [hf] at h1; simp only [h4] at h1; rw [if_neg (by decide)] at h1; exact absurd h1 (by decide : ¬ ((12 : Int) = 0))
  | some n =>
    rw [hf] at h1
    simp only [h4] at h1 ⊢
    by_cases hn : n.kind = 0
    · simp [hn] at h1
    · simp only [hn]
      exact like_map (fun n => by split <;> rfl) (fun n => by split <;> rfl) (fun n => by split <;> exact ⟨rfl, rfl⟩) _
theorem like_go : ∀ (P : List Stp) (i : Nat) (L : List Nd), (∀ s ∈ P, s.kind = 4) → (goN i L P).1 = 0 → LikeG L (goN i L P).2.2
  | [], i, L, _, _ => LikeG.refl L
  | s :: P, i, L, hk, h => by
    unfold goN at h ⊢
    by_cases h1 : (stepN L s).1 ≠ 0
    · rw [if_pos h1] at h; exact absurd h h1
    · rw [if_neg h1] at h ⊢
      exact (like_route (hk s (by simp)) (Decidable.not_not.1 h1)).trans (like_go P (i + 1) _ (fun t ht => hk t (by simp [ht])) h)
theorem like_idle {L : List Nd} {P : List Stp} (h : idleN L P = true) : LikeG L (applyN L P).2.2 := by
  obtain ⟨h1, h2⟩ := idle_all h
  unfold applyN at h1 ⊢
  split at h1
  · cases h1
  rename_i hc
  rw [if_neg hc]
  split at h1
  · cases h1
  rename_i hl
  rw [if_neg hl]
  exact like_go P 0 L h2 h1
theorem step_of_norm (L : List Nd) (s : Stp) : stepN (normL L) s = stepN L s := by
  unfold stepN
  rw [check_perm (normL_perm L), normL_norm]
theorem apply_of_norm (L : List Nd) {P : List Stp} (hP : P.length ≠ 0) : applyN (normL L) P = applyN L P := by
  unfold applyN
  rw [check_perm (normL_perm L)]
  cases P with
  | nil => exact absurd rfl hP
  | cons s P =>
    have : goN 0 (normL L) (s :: P) = goN 0 L (s :: P) := by
      unfold goN
      rw [step_of_norm]
    rw [this]
theorem come_like {L K : List Nd} (h : LikeG L K) {put put' : Int → Int → Int × Int → DS → DS} (hp : ∀ id key v S, put id key v S = put' id key v S) (frm id key : Int) (v : Int × Int) (S : DS) : comeD L put frm id key v S = comeD K put' frm id key v S := by
  have hf := h.find id
  unfold comeD
  cases h1 : findN L id with
  | none =>
    rw [h1] at hf
    cases h2 : findN K id with
    | none => rfl
    | some y => rw [h2] at hf; cases hf
  | some x =>
    rw [h1] at hf
    cases h2 : findN K id with
    | none => rw [h2] at hf; cases hf
    | some y =>
      rw [h2] at hf
      simp only [Option.map_some, Option.some.injEq, Prod.mk.injEq] at hf
      simp only
      rw [hf.1]
      have e1 : emitsD x S.T id key v = emitsD y S.T id key v := by unfold emitsD; rw [hf.2]
      have e2 : keepD x S.T id key v = keepD y S.T id key v := by unfold keepD; rw [hf.2]
      rw [e1, e2, show put id key = put' id key from funext fun v => funext fun S => hp id key v S]
theorem put_like {L K : List Nd} (h : LikeG L K) : ∀ (d : Nat) (id key : Int) (v : Int × Int) (S : DS), putD L d id key v S = putD K d id key v S
  | 0, _, _, _, _ => rfl
  | d + 1, id, key, v, S => by
    unfold putD
    rw [h.kids]
    congr 1
    funext s c
    exact come_like h (fun id key v S => put_like h d id key v S) id c key v s
theorem flow_like {L K : List Nd} (h : LikeG L K) (l : List (Nat → Int)) (S : DS) : flowD L l S = flowD K l S := by
  unfold flowD
  congr 1
  funext s x
  exact put_like h 8 0 _ _ _
/-- Are all plans such as move keys alone, each of the graph that those ahead of it make? -/
def idles : List Nd → List (List Stp × List (Nat → Int)) → Bool
  | _, [] => true
  | L, z :: Z => if z.1.length = 0 then idles L Z else idleN L z.1 && idles (applyN L z.1).2.2 Z
def recsZ (Z : List (List Stp × List (Nat → Int))) : List (Nat → Int) := Z.flatMap (·.2)
theorem recs_ok {X : GS} (hR : RightG X.L) {R : List (Nat → Int)} (h : R.all recR = true) (C : Int → Option Int) : recsG X R = (0, ⟨X.L, (flowD X.L R ⟨X.T, [], C⟩).T, X.out ++ (flowD X.L R ⟨X.T, [], C⟩).out⟩) := by
  unfold recsG
  rw [if_neg (fun c => c (checkN_zero.2 hR)), if_neg (by rw [h]; simp)]
  obtain ⟨a, b⟩ := flow_new (L := X.L) R ⟨X.T, [], cnt0 X.L⟩ C
  rw [a, b, List.nil_append]
theorem recs_bad {X : GS} (hR : RightG X.L) {R : List (Nat → Int)} (h : R.all recR = false) : recsG X R = (1, X) := by
  unfold recsG
  rw [if_neg (fun c => c (checkN_zero.2 hR)), if_pos h]
theorem segs_idle (L0 : List Nd) (C : Int → Option Int) : ∀ (Z : List (List Stp × List (Nat → Int))) (X : GS) (m : List Nd), X.L = normL m → RightG m → idles m Z = true → LikeG L0 X.L →
    ((recsZ Z).all recR = false → (segsG Z X).1 = 1) ∧ ((recsZ Z).all recR = true → (segsG Z X).1 = 0 ∧ (segsG Z X).2.T = (flowD L0 (recsZ Z) ⟨X.T, [], C⟩).T ∧ (segsG Z X).2.out = X.out ++ (flowD L0 (recsZ Z) ⟨X.T, [], C⟩).out)
  | [], X, m, hX, hr, hi, hl => ⟨fun h => by simp [recsZ] at h, fun _ => ⟨rfl, rfl, by simp [segsG, recsZ, flowD]⟩⟩
  | z :: Z, X, m, hX, hr, hi, hl => by
    obtain ⟨m', hp, hr', hi', hl'⟩ : ∃ m', planG X z.1 = (0, ⟨normL m', X.T, X.out⟩) ∧ RightG m' ∧ idles m' Z = true ∧ LikeG L0 (normL m') := by
      unfold idles at hi
      unfold planG
      by_cases h0 : z.1.length = 0
      · rw [if_pos h0] at hi
        rw [if_pos h0]
        exact ⟨m, by rw [← hX], hr, hi, by rw [← hX]; exact hl⟩
      · rw [if_neg h0, Bool.and_eq_true] at hi
        rw [if_neg h0, hX, apply_of_norm m h0]
        obtain ⟨h1, h4⟩ := idle_all hi.1
        refine ⟨(applyN m z.1).2.2, ?_, (apply_src h1).2.1, hi.2, ?_⟩
        · rw [h1, apply_norml h1, kepL_route h4]
        · rw [apply_norml h1]
          rw [hX] at hl
          exact (hl.trans (like_norm m).symm).trans (like_idle hi.1)
    have hRn := norm_right hr'
    have hz : recsZ (z :: Z) = z.2 ++ recsZ Z := rfl
    have hsg : segG X z.1 z.2 = recsG ⟨normL m', X.T, X.out⟩ z.2 := by
      unfold segG
      rw [hp]
      simp
    unfold segsG
    rw [hsg, hz, List.all_append]
    by_cases hb : z.2.all recR = true
    · rw [recs_ok (X := ⟨normL m', X.T, X.out⟩) hRn hb C]
      simp only [ne_eq, not_true_eq_false, if_false, hb, Bool.true_and]
      obtain ⟨k1, k2⟩ := segs_idle L0 C Z ⟨normL m', (flowD (normL m') z.2 ⟨X.T, [], C⟩).T, X.out ++ (flowD (normL m') z.2 ⟨X.T, [], C⟩).out⟩ m' rfl hr' hi' hl'
      refine ⟨k1, fun h => ?_⟩
      obtain ⟨a, b, c⟩ := k2 h
      refine ⟨a, ?_, ?_⟩
      · rw [b, flow_app, ← flow_like hl' z.2]
        exact (flow_new (recsZ Z) _ C).1.symm
      · rw [c, flow_app, ← flow_like hl' z.2, List.append_assoc, (flow_new (L := L0) (recsZ Z) (flowD L0 z.2 ⟨X.T, [], C⟩) C).2]
    · have hb : z.2.all recR = false := by simpa using hb
      rw [recs_bad (X := ⟨normL m', X.T, X.out⟩) hRn hb]
      simp [hb]
/-- Plans that move keys alone change neither output nor what is kept. -/
theorem moves_same {L : List Nd} (hR : RightG L) {Z : List (List Stp × List (Nat → Int))} (hi : idles L Z = true) (T : Pk → CV) : (segsG Z ⟨normL L, T, []⟩).1 = (segsG [([], recsZ Z)] ⟨normL L, T, []⟩).1 ∧ ((segsG Z ⟨normL L, T, []⟩).1 = 0 → (segsG Z ⟨normL L, T, []⟩).2.T = (segsG [([], recsZ Z)] ⟨normL L, T, []⟩).2.T ∧ (segsG Z ⟨normL L, T, []⟩).2.out = (segsG [([], recsZ Z)] ⟨normL L, T, []⟩).2.out) := by
  obtain ⟨h1, h2⟩ := segs_idle (normL L) (fun _ => none) Z ⟨normL L, T, []⟩ L rfl hR hi (LikeG.refl _)
  rw [segs_one]
  by_cases hb : (recsZ Z).all recR = true
  · obtain ⟨a, b, c⟩ := h2 hb
    rw [recs_ok (X := ⟨normL L, T, []⟩) (norm_right hR) hb (fun _ => none), a, b, c]
    exact ⟨rfl, fun _ => ⟨rfl, rfl⟩⟩
  · have hb : (recsZ Z).all recR = false := by simpa using hb
    rw [recs_bad (X := ⟨normL L, T, []⟩) (norm_right hR) hb, h1 hb]
    exact ⟨rfl, fun h => by cases h⟩
/-- All lines but one sink's. -/
def butS (s : Int) (l : List (Nat → Int)) : List (Nat → Int) := l.filter fun x => decide (x 0 ≠ s)
def BrD (s : Int) (a b : DS) : Prop := a.T = b.T ∧ b.out = butS s a.out
/-- A graph, and the same without one of its sinks. -/
structure LessS (s : Int) (L K : List Nd) : Prop where
  snk : ∃ x, findN L s = some x ∧ x.kind = 2
  find : ∀ c, c ≠ s → findN K c = findN L c
  kids : ∀ c, childN K c = (childN L c).filter fun x => decide (x ≠ s)
theorem butS_app (s : Int) (a b : List (Nat → Int)) : butS s (a ++ b) = butS s a ++ butS s b := List.filter_append ..
theorem foldl_br {α : Type} {s : Int} (f g : DS → α → DS) : ∀ (l : List α) {a b : DS}, (∀ x ∈ l, ∀ a b, BrD s a b → BrD s (f a x) (g b x)) → BrD s a b → BrD s (l.foldl f a) (l.foldl g b)
  | [], _, _, _, h => h
  | x :: l, a, b, hf, h => foldl_br f g l (fun y hy => hf y (by simp [hy])) (hf x (by simp) a b h)
theorem foldl_less {s : Int} (f g : DS → Int → DS) (hs : ∀ a b, BrD s a b → BrD s (f a s) b) (ho : ∀ c, c ≠ s → ∀ a b, BrD s a b → BrD s (f a c) (g b c)) : ∀ (l : List Int) {a b : DS}, BrD s a b → BrD s (l.foldl f a) ((l.filter fun x => decide (x ≠ s)).foldl g b)
  | [], _, _, h => h
  | c :: l, a, b, h => by
    by_cases e : c = s
    · subst e
      rw [List.filter_cons_of_neg (by simp)]
      exact foldl_less f g hs ho l (hs a b h)
    · rw [List.filter_cons_of_pos (by simpa using e)]
      exact foldl_less f g hs ho l (ho c e a b h)
theorem put_less {s : Int} {L K : List Nd} (hL : LessS s L K) : ∀ (d : Nat) (id key : Int) (v : Int × Int) {a b : DS}, BrD s a b → BrD s (putD L d id key v a) (putD K d id key v b)
  | 0, _, _, _, _, _, h => h
  | d + 1, id, key, v, a, b, h => by
    unfold putD
    rw [hL.kids]
    refine foldl_less _ _ (fun a b h => ?_) (fun c hc a b h => ?_) _ h
    · obtain ⟨x, hx, h2⟩ := hL.snk
      unfold comeD
      rw [hx]
      simp only
      rw [if_pos h2]
      refine ⟨h.1, ?_⟩
      show b.out = butS s (a.out ++ _)
      have : butS s [lnF s id key v.1 v.2] = [] := by unfold butS; rw [List.filter_cons_of_neg]; · rfl
                                                      · show ¬ (decide (s ≠ s) = true); simp
      rw [butS_app, this, List.append_nil]
      exact h.2
    · unfold comeD
      rw [hL.find c hc]
      cases findN L c with
      | none => exact h
      | some x =>
        simp only
        by_cases hk : x.kind = 2
        · rw [if_pos hk, if_pos hk]
          refine ⟨h.1, ?_⟩
          show b.out ++ _ = butS s (a.out ++ _)
          have : butS s [lnF c id key v.1 v.2] = [lnF c id key v.1 v.2] := by unfold butS; rw [List.filter_cons_of_pos]; · rfl
                                                                              · show decide (c ≠ s) = true; simpa using hc
          rw [butS_app, this, h.2]
        · rw [if_neg hk, if_neg hk]
          have e1 : emitsD x a.T c key v = emitsD x b.T c key v := by rw [h.1]
          rw [e1]
          exact foldl_br _ _ _ (fun u _ a b h => put_less hL d c key u h) ⟨by simp only [h.1], h.2⟩
theorem flow_less {s : Int} {L K : List Nd} (hL : LessS s L K) (l : List (Nat → Int)) {a b : DS} (h : BrD s a b) : BrD s (flowD L l a) (flowD K l b) :=
  foldl_br _ _ l (fun x _ a b h => put_less hL 8 0 _ _ (a := ⟨a.T, a.out, _⟩) (b := ⟨b.T, b.out, _⟩) h) h
theorem less_right {L : List Nd} (h : RightG L) {i : Nat} {x : Nd} (hx : L[i]? = some x) (h2 : x.kind = 2) : RightG (L.take i ++ L.drop (i + 1)) := by
  refine (less_node h hx).2 ⟨by rw [h2]; decide, childN_nil.2 fun n hn hf => ?_⟩
  obtain ⟨m, hm, hk⟩ := (nodeB_iff.1 (h.each n hn)).2.2.2.2 x.id hf
  rw [findN_one h.uni (List.mem_of_getElem? hx)] at hm
  injection hm with hm
  exact hk (by rw [← hm]; exact h2)
theorem less_s {L : List Nd} (h : RightG L) {i : Nat} {x : Nd} (hx : L[i]? = some x) (h2 : x.kind = 2) : LessS x.id (normL L) (normL (L.take i ++ L.drop (i + 1))) := by
  refine ⟨⟨x, by rw [findN_norm]; exact findN_one h.uni (List.mem_of_getElem? hx), h2⟩, fun c hc => ?_, fun c => ?_⟩
  · rw [findN_norm, findN_norm, findN_filt, filtN_erase hx hc, ← findN_filt]
  · rw [child_perm (normL_perm _), child_perm (normL_perm _)]
    refine rises_eq (childN_rises _ _) ((childN_rises _ _).filter _) fun y => ?_
    rw [childN_mem, List.mem_filter, childN_mem]
    constructor
    · rintro ⟨n, hn, e, hf⟩
      refine ⟨⟨n, (sub_erase L i).subset hn, e, hf⟩, decide_eq_true fun c => ?_⟩
      exact gone_id h.uni hx (List.mem_map.2 ⟨n, hn, by rw [e, c]⟩)
    · rintro ⟨⟨n, hn, e, hf⟩, hne⟩
      exact ⟨n, mem_erase hx hn (fun c => of_decide_eq_true hne (by rw [← e, c])), e, hf⟩
/-- Without one of its sinks a graph makes the same lines but that sink's. -/
theorem branch_same {L : List Nd} (hR : RightG L) {i : Nat} {x : Nd} (hx : L[i]? = some x) (h2 : x.kind = 2) (R : List (Nat → Int)) (T : Pk → CV) : (segsG [([], R)] ⟨normL L, T, []⟩).1 = (segsG [([], R)] ⟨normL (L.take i ++ L.drop (i + 1)), T, []⟩).1 ∧ ((segsG [([], R)] ⟨normL L, T, []⟩).1 = 0 → (segsG [([], R)] ⟨normL L, T, []⟩).2.T = (segsG [([], R)] ⟨normL (L.take i ++ L.drop (i + 1)), T, []⟩).2.T ∧ (segsG [([], R)] ⟨normL (L.take i ++ L.drop (i + 1)), T, []⟩).2.out = butS x.id (segsG [([], R)] ⟨normL L, T, []⟩).2.out) := by
  rw [segs_one, segs_one]
  have h1 := norm_right hR
  have h3 := norm_right (less_right hR hx h2)
  by_cases hb : R.all recR = true
  · rw [recs_ok (X := ⟨normL L, T, []⟩) h1 hb (fun _ => none), recs_ok (X := ⟨normL (L.take i ++ L.drop (i + 1)), T, []⟩) h3 hb (fun _ => none)]
    obtain ⟨a, b⟩ := flow_less (less_s hR hx h2) R (a := ⟨T, [], fun _ => none⟩) (b := ⟨T, [], fun _ => none⟩) ⟨rfl, rfl⟩
    exact ⟨rfl, fun _ => ⟨a, by simp only [List.nil_append]; exact b⟩⟩
  · have hb : R.all recR = false := by simpa using hb
    rw [recs_bad (X := ⟨normL L, T, []⟩) h1 hb, recs_bad (X := ⟨normL (L.take i ++ L.drop (i + 1)), T, []⟩) h3 hb]
    exact ⟨rfl, fun h => by cases h⟩
end Go.Proofs.YthfibggbipkmfaaGreat
