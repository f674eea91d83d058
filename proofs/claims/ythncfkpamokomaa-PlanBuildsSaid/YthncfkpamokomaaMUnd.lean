/- Texts merged into one, for the number of files a claim may have: Undo, PlR. -/
import Derived.Test.YthncfkpamokomaaMApP
import Derived.Test.YthncfkpamokomaaMI
import Derived.Test.YthncfkpamokomaaMG
import Derived.Deep.DeepCutAuto
namespace Go.Proofs.Ythncfkpamokomaa
open Go.RowKit Go.Fb
set_option linter.unusedVariables false
/-- The step that gives a node tasks and a route. -/
def mvS (id par : Int) (r : Nat → Int) : Stp := ⟨4, ⟨id, 0, par, [], [], r⟩, false⟩
set_option maxRecDepth 100000 in
set_option maxHeartbeats 1000000 in
theorem moved_any (id par : Int) (r : Nat → Int) (w : World) : Calls Try.prog 27 #[.int .i64 id, .int .i64 par, .agg #[.int .i64 (r 0), .int .i64 (r 1), .int .i64 (r 2), .int .i64 (r 3), .int .i64 (r 4), .int .i64 (r 5), .int .i64 (r 6), .int .i64 (r 7)]] w fun e w' => e = .returned (.agg (stV (mvS id par r) (.slice none 0 0) (.slice none 0 0))) ∧ Fr w.heap.size [] w w' := by
  go_enter Try.func27, Try.ntmps27
  go_wp2_with fail
  have b := Blk.new (w.alloc (.cells #[.int .i64 (r 0), .int .i64 (r 1), .int .i64 (r 2), .int .i64 (r 3), .int .i64 (r 4), .int .i64 (r 5), .int .i64 (r 6), .int .i64 (r 7)] 31)) 35 (stV (mvS id par r) (.slice none 0 0) (.slice none 0 0))
  rw [World.size_alloc] at b
  exact bodyPost_ret (results_cell_row rfl _ _ (w.heap.size + 1) 35 (stV (mvS id par r) (.slice none 0 0) (.slice none 0 0)) (0, 0) _ rfl b Try.underlying35 rfl (by kernel_rfl)) rfl ⟨rfl, ((Fr.refl w.heap.size [] w).alloc (Nat.le_refl _) _).alloc (by simp) _⟩
/-- The plan that leads back. -/
def undoL (L : List Nd) : List Stp → List Stp → List Stp
  | [], out => out
  | s :: P, out => undoL L P (if out.any (fun x => decide (x.nd.id = s.nd.id)) then out else out ++ [mvS (getN L s.nd.id).id (getN L s.nd.id).par (getN L s.nd.id).rt])
theorem undoL_snoc (L : List Nd) (s : Stp) : ∀ (P out : List Stp), undoL L (P ++ [s]) out = (if (undoL L P out).any (fun x => decide (x.nd.id = s.nd.id)) then undoL L P out else undoL L P out ++ [mvS (getN L s.nd.id).id (getN L s.nd.id).par (getN L s.nd.id).rt])
  | [], out => rfl
  | t :: P, out => undoL_snoc L s P _
theorem undoL_len (L : List Nd) : ∀ (P out : List Stp), (undoL L P out).length ≤ out.length + P.length
  | [], out => by simp [undoL]
  | s :: P, out => by
    have h := undoL_len L P (if out.any (fun x => decide (x.nd.id = s.nd.id)) then out else out ++ [mvS (getN L s.nd.id).id (getN L s.nd.id).par (getN L s.nd.id).rt])
    unfold undoL
    refine Nat.le_trans h ?_
    split
    · simp
      try omega
    · simp
      try omega
def UndoOut (L : List Nd) (P : List Stp) (r1 : Int) (w : World) (e : Ending) (w' : World) : Prop :=
  Fr w.heap.size [] w w' ∧ ((r1 ≠ 0 ∧ e = .returned (.tuple #[.slice none 0 0, .int .i64 r1])) ∨
  (r1 = 0 ∧ (P.all fun s => decide (s.kind = 4)) = false ∧ e = .returned (.tuple #[.slice none 0 0, .int .i64 11])) ∨
  (r1 = 0 ∧ (P.all fun s => decide (s.kind = 4)) = true ∧ ∃ A c n S, e = .returned (.tuple #[.slice A n c, .int .i64 0]) ∧ Sts w' w'.heap.size A n S ∧ fstS S = undoL L P [] ∧ SmallS S))
/-- A step without slices. -/
def Bare (m : Stm) : Prop := m.2.1 = .slice none 0 0 ∧ m.2.2 = .slice none 0 0 ∧ m.1.nd.fr = [] ∧ m.1.nd.pg = []
theorem Bare.inn {m : Stm} (h : Bare m) (w : World) (B : Nat) : NdIn w B (m.1.nd, m.2.1, m.2.2) := by
  obtain ⟨h1, h2, h3, h4⟩ := h
  rw [h1, h2]
  exact nd_bare w B m.1.nd h3 h4
theorem stepTy : SliceTy Try.prog 41 35 15 152 := SliceTy.mk' (z := .agg #[.int .i64 0, .int .i64 0, .int .i64 0, .slice none 0 0, .slice none 0 0, .int .i64 0, .int .i64 0, .int .i64 0, .int .i64 0, .int .i64 0, .int .i64 0, .int .i64 0, .int .i64 0, .int .i64 0, .bool false]) Try.underlying41 (by kernel_rfl) rfl (by omega)
theorem all_snoc {P : List Stp} {k : Nat} {s : Stp} (h : P.take (k + 1) = P.take k ++ [s]) (ha : ∀ x ∈ P.take k, x.kind = 4) (hs : s.kind = 4) : ∀ x ∈ P.take (k + 1), x.kind = 4 := fun x hx => by
  rw [h] at hx
  rcases List.mem_append.1 hx with hx | hx
  · exact ha x hx
  · rw [List.mem_singleton.1 hx]; exact hs
end Go.Proofs.Ythncfkpamokomaa
namespace Go.Proofs.Ythncfkpamokomaa
open Go.RowKit Go.Fb
/-- A graph with other tasks and routes. -/
def setV (N : List Nd) (V : Int → Int × (Nat → Int)) : List Nd := N.map fun n => rtN (V n.id).1 (V n.id).2 n
def putV (V : Int → Int × (Nat → Int)) (x : Nd) : Int → Int × (Nat → Int) := fun i => if i = x.id then (x.par, x.rt) else V i
def ownV (L : List Nd) : Int → Int × (Nat → Int) := fun i => ((getN L i).par, (getN L i).rt)
theorem setV_ids (N : List Nd) (V : Int → Int × (Nat → Int)) : idsN (setV N V) = idsN N := by
  unfold idsN setV
  rw [List.map_map]
  rfl
theorem setV_sorted {N : List Nd} (V : Int → Int × (Nat → Int)) (h : normL N = N) : normL (setV N V) = setV N V := by
  refine normL_self ?_
  have hs : SortedN N := by rw [← h]; exact normL_sorted N
  unfold SortedN at hs ⊢
  unfold setV
  rw [List.pairwise_map]
  exact hs
theorem find_setV (N : List Nd) (V : Int → Int × (Nat → Int)) (id : Int) : findN (setV N V) id = (findN N id).map fun n => rtN (V n.id).1 (V n.id).2 n := by
  unfold findN setV
  induction N with
  | nil => rfl
  | cons n N ih =>
    rw [List.map_cons, List.find?_cons, List.find?_cons]
    have e : decide ((rtN (V n.id).1 (V n.id).2 n).id = id) = decide (n.id = id) := rfl
    rw [e]
    cases decide (n.id = id)
    · exact ih
    · rfl
theorem setV_own {L N : List Nd} (hp : N.Perm L) (hu : (idsN L).Nodup) {V : Int → Int × (Nat → Int)} (h : ∀ n ∈ N, V n.id = ownV L n.id) : setV N V = N := by
  unfold setV
  conv => rhs; rw [← List.map_id N]
  apply List.map_congr_left
  intro n hn
  have : getN L n.id = n := getN_some (findN_one hu (hp.mem_iff.1 hn))
  rw [h n hn]
  unfold ownV
  simp only [this, id]
  rfl
theorem upd_setV {N : List Nd} {V : Int → Int × (Nat → Int)} {x : Nd} : updN (setV N V) x.id (rtN x.par x.rt) = setV N (putV V x) := by
  unfold updN setV
  rw [List.map_map]
  apply List.map_congr_left
  intro n _
  unfold putV
  simp only [Function.comp]
  by_cases h : n.id = x.id
  · simp [rtN, h]
  · simp [rtN, h]
theorem node_setV {N : List Nd} {V : Int → Int × (Nat → Int)} {n : Nd} : nodeB (setV N V) (rtN (V n.id).1 (V n.id).2 n) = (decide (0 ≤ n.id) && (decide (n.id < 8) && (kindB n && (right8 (V n.id).1 (V n.id).2 && !n.fr.any (aboveB N))))) := by
  have ha : ∀ f, aboveB (setV N V) f = aboveB N f := fun f => by
    unfold aboveB
    rw [find_setV]
    cases findN N f <;> rfl
  unfold nodeB
  rw [show aboveB (setV N V) = aboveB N from funext ha]
  rfl
theorem right_setV {N : List Nd} {V : Int → Int × (Nat → Int)} (h : RightG N) : RightG (setV N V) ↔ ∀ n ∈ N, right8 (V n.id).1 (V n.id).2 = true := by
  constructor
  · intro g n hn
    have := g.each (rtN (V n.id).1 (V n.id).2 n) (List.mem_map.2 ⟨n, hn, rfl⟩)
    rw [node_setV] at this
    simp only [Bool.and_eq_true] at this
    exact this.2.2.2.1
  · intro g
    refine ⟨by unfold setV; rw [List.length_map]; exact h.len, fun m hm => ?_, by rw [setV_ids]; exact h.uni, by rw [setV_ids]; exact h.zero, ?_⟩
    · obtain ⟨n, hn, rfl⟩ := List.mem_map.1 hm
      rw [node_setV, g n hn]
      have := h.each n hn
      unfold nodeB at this
      simp only [Bool.and_eq_true] at this ⊢
      exact ⟨this.1, this.2.1, this.2.2.1, trivial, this.2.2.2.2⟩
    · obtain ⟨r, hr⟩ := h.rank
      refine ⟨r, fun m hm f hf => ?_⟩
      obtain ⟨n, hn, rfl⟩ := List.mem_map.1 hm
      exact hr n hn f hf
/-- One move. -/
theorem step_setV {N : List Nd} {V : Int → Int × (Nat → Int)} {x : Nd} {r : Bool} (hn : normL N = N) (hr : RightG (setV N V)) : stepN (setV N V) ⟨4, x, r⟩ = match findN N x.id with
    | none => (12, [])
    | some n => if n.kind = 0 then (11, []) else endN (0, setV N (putV V x)) := by
  rw [step_ok hr (by simp), setV_sorted V hn]
  unfold chgN
  simp only
  rw [find_setV]
  cases hf : findN N x.id with
  | none => simp [endN]
  | some n =>
    by_cases hk : n.kind = 0
    · simp [rtN, hk, endN]
    · simp [rtN, hk]
      rw [upd_setV]
def updV (V : Int → Int × (Nat → Int)) (P : List Stp) : Int → Int × (Nat → Int) := P.foldl (fun V s => putV V s.nd) V
theorem updV_none : ∀ (P : List Stp) (V : Int → Int × (Nat → Int)) (i : Int), (∀ s ∈ P, s.nd.id ≠ i) → updV V P i = V i
  | [], _, _, _ => rfl
  | s :: P, V, i, h => by
    show updV (putV V s.nd) P i = V i
    rw [updV_none P _ i fun t ht => h t (by simp [ht])]
    unfold putV
    rw [if_neg (fun e => h s (by simp) e.symm)]
/-- Moves, one behind the other. -/
theorem go_setV {N : List Nd} (hN : RightG N) (hn : normL N = N) : ∀ (P : List Stp) (i : Nat) (V : Int → Int × (Nat → Int)), RightG (setV N V) → (∀ s ∈ P, s.kind = 4) → (goN i (setV N V) P).1 = 0 → (goN i (setV N V) P).2.2 = setV N (updV V P) ∧ RightG (setV N (updV V P)) ∧ ∀ s ∈ P, ∃ n, findN N s.nd.id = some n ∧ n.kind ≠ 0
  | [], _, V, hr, _, _ => ⟨rfl, hr, by simp⟩
  | ⟨kd, x, rs⟩ :: P, i, V, hr, hk, h0 => by
    have hkd := hk _ List.mem_cons_self
    simp only at hkd
    subst hkd
    have hs := step_setV (x := x) (r := rs) hn hr
    unfold goN at h0 ⊢
    by_cases e : (stepN (setV N V) ⟨4, x, rs⟩).1 ≠ 0
    · rw [if_pos e] at h0; exact absurd h0 e
    rw [if_neg e] at h0 ⊢
    have e := Decidable.not_not.1 e
    cases hf : findN N x.id with
    | none => rw [hf] at hs; rw [hs] at e; cases e
    | some n =>
      rw [hf] at hs
      simp only at hs
      by_cases hk0 : n.kind = 0
      · rw [if_pos hk0] at hs; rw [hs] at e; cases e
      rw [if_neg hk0] at hs
      rw [hs] at e
      obtain ⟨_, g2, g3⟩ := end_ok e
      simp only at g2 g3
      rw [setV_sorted _ hn] at g3
      rw [hs, g3] at h0 ⊢
      obtain ⟨a1, a2, a3⟩ := go_setV hN hn P (i + 1) (putV V x) g2 (fun s hs => hk s (by simp [hs])) h0
      refine ⟨a1, a2, fun s hs => ?_⟩
      rcases List.mem_cons.1 hs with rfl | hs
      · exact ⟨n, hf, hk0⟩
      · exact a3 s hs
/-- Moves that keep within what may be. -/
theorem go_back {N : List Nd} (hN : RightG N) (hn : normL N = N) : ∀ (U : List Stp) (i : Nat) (V W : Int → Int × (Nat → Int)), (∀ n ∈ N, right8 (V n.id).1 (V n.id).2 = true) → (∀ n ∈ N, right8 (W n.id).1 (W n.id).2 = true) →
    (∀ u ∈ U, u.kind = 4 ∧ (u.nd.par, u.nd.rt) = W u.nd.id ∧ ∃ n, findN N u.nd.id = some n ∧ n.kind ≠ 0) → (goN i (setV N V) U).1 = 0 ∧ (goN i (setV N V) U).2.2 = setV N (updV V U)
  | [], _, _, _, _, _, _ => ⟨rfl, rfl⟩
  | ⟨kd, x, rs⟩ :: U, i, V, W, hV, hW, hU => by
    obtain ⟨hkd, hw, n, hf, hk⟩ := hU _ List.mem_cons_self
    simp only at hkd hw hf
    subst hkd
    have hP : ∀ m ∈ N, right8 (putV V x m.id).1 (putV V x m.id).2 = true := fun m hm => by
      unfold putV
      by_cases e : m.id = x.id
      · have h := hW m hm
        rw [e, ← hw] at h
        rw [if_pos e]
        exact h
      · rw [if_neg e]; exact hV m hm
    have hs : stepN (setV N V) ⟨4, x, rs⟩ = (0, setV N (putV V x)) := by
      rw [step_setV hn ((right_setV hN).2 hV), hf]
      simp only
      rw [if_neg hk, end_mk ((right_setV hN).2 hP), setV_sorted _ hn]
    unfold goN
    rw [hs]
    simp only [ne_eq, not_true_eq_false, if_false]
    exact go_back hN hn U (i + 1) (putV V x) W hP hW fun u hu => hU u (by simp [hu])
theorem updV_own : ∀ (U : List Stp) (V W : Int → Int × (Nat → Int)) (i : Int), (∀ u ∈ U, (u.nd.par, u.nd.rt) = W u.nd.id) → ((∃ u ∈ U, u.nd.id = i) ∨ V i = W i) → updV V U i = W i
  | [], V, W, i, _, h => by
    rcases h with ⟨u, hu, _⟩ | h
    · cases hu
    · exact h
  | s :: U, V, W, i, hU, h => by
    show updV (putV V s.nd) U i = W i
    refine updV_own U _ W i (fun u hu => hU u (by simp [hu])) ?_
    by_cases e : s.nd.id = i
    · refine .inr ?_
      unfold putV
      rw [if_pos e.symm, hU s (by simp), e]
    · rcases h with ⟨u, hu, hi⟩ | h
      · rcases List.mem_cons.1 hu with rfl | hu
        · exact absurd hi e
        · exact .inl ⟨u, hu, hi⟩
      · refine .inr ?_
        unfold putV
        rw [if_neg (fun e' => e e'.symm)]
        exact h
theorem undo_mem (L : List Nd) : ∀ (P out : List Stp), (∀ u ∈ undoL L P out, u ∈ out ∨ ∃ s ∈ P, u = mvS (getN L s.nd.id).id (getN L s.nd.id).par (getN L s.nd.id).rt) ∧ (∀ u ∈ out, u ∈ undoL L P out)
  | [], out => ⟨fun u hu => .inl hu, fun u hu => hu⟩
  | s :: P, out => by
    unfold undoL
    obtain ⟨h1, h2⟩ := undo_mem L P (if out.any (fun x => decide (x.nd.id = s.nd.id)) then out else out ++ [mvS (getN L s.nd.id).id (getN L s.nd.id).par (getN L s.nd.id).rt])
    refine ⟨fun u hu => ?_, fun u hu => h2 u ?_⟩
    · rcases h1 u hu with h | ⟨t, ht, e⟩
      · by_cases hb : out.any (fun x => decide (x.nd.id = s.nd.id)) = true
        · rw [if_pos hb] at h; exact .inl h
        · rw [if_neg hb] at h
          rcases List.mem_append.1 h with h | h
          · exact .inl h
          · exact .inr ⟨s, by simp, List.mem_singleton.1 h⟩
      · exact .inr ⟨t, by simp [ht], e⟩
    · by_cases hb : out.any (fun x => decide (x.nd.id = s.nd.id)) = true
      · rw [if_pos hb]; exact hu
      · rw [if_neg hb]; exact List.mem_append_left _ hu
theorem undo_has (L : List Nd) : ∀ (P out : List Stp), (∀ s ∈ P, (getN L s.nd.id).id = s.nd.id) → ∀ s ∈ P, ∃ u ∈ undoL L P out, u.nd.id = s.nd.id
  | [], _, _, s, hs => by cases hs
  | t :: P, out, hg, s, hs => by
    unfold undoL
    rcases List.mem_cons.1 hs with rfl | hs
    · by_cases hb : out.any (fun x => decide (x.nd.id = s.nd.id)) = true
      · rw [if_pos hb]
        obtain ⟨u, hu, e⟩ := List.any_eq_true.1 hb
        exact ⟨u, (undo_mem L P out).2 u hu, of_decide_eq_true e⟩
      · rw [if_neg hb]
        exact ⟨_, (undo_mem L P _).2 _ (List.mem_append_right _ List.mem_cons_self), hg s List.mem_cons_self⟩
    · exact undo_has L P _ (fun x hx => hg x (by simp [hx])) s hs
theorem go_norm {L : List Nd} {P : List Stp} (h : P ≠ []) (i : Nat) : goN i L P = goN i (normL L) P := by
  cases P with
  | nil => exact absurd rfl h
  | cons s P =>
    have : stepN (normL L) s = stepN L s := by
      unfold stepN
      rw [check_perm (normL_perm L), normL_norm]
    unfold goN
    rw [this]
/-- What is undone is as it was. -/
theorem undo_back {L : List Nd} {P : List Stp} (h0 : (applyN L P).1 = 0) (hk : ∀ s ∈ P, s.kind = 4) :
    (applyN (applyN L P).2.2 (undoL L P [])).1 = 0 ∧ sameL (applyN (applyN L P).2.2 (undoL L P [])).2.2 L = true ∧ (undoL L P []).length ≤ P.length := by
  have hlen := undoL_len L P []
  simp only [List.length_nil, Nat.zero_add] at hlen
  unfold applyN at h0
  by_cases hc : checkN L ≠ 0
  · rw [if_pos hc] at h0; simp at h0
  rw [if_neg hc] at h0
  by_cases hp : P.length < 1 ∨ 6 < P.length
  · rw [if_pos hp] at h0; simp at h0
  rw [if_neg hp] at h0
  have hr : RightG L := checkN_zero.1 (Decidable.not_not.1 hc)
  have hPn : P ≠ [] := by rintro rfl; simp at hp
  have hN := norm_right hr
  have hnn := normL_norm L
  have hown : setV (normL L) (ownV L) = normL L := setV_own (normL_perm L) hr.uni fun n _ => rfl
  have happ : applyN L P = goN 0 (setV (normL L) (ownV L)) P := by
    unfold applyN
    rw [if_neg hc, if_neg hp, hown]
    exact go_norm hPn 0
  rw [go_norm hPn 0, ← hown] at h0
  obtain ⟨a1, a2, a3⟩ := go_setV hN hnn P 0 (ownV L) (by rw [hown]; exact hN) hk h0
  have hfin : ∀ s ∈ P, ∃ n, findN L s.nd.id = some n ∧ n.kind ≠ 0 ∧ getN L s.nd.id = n := fun s hs => by
    obtain ⟨n, h1, h2⟩ := a3 s hs
    rw [findN_norm] at h1
    exact ⟨n, h1, h2, getN_some h1⟩
  have hgid : ∀ s ∈ P, (getN L s.nd.id).id = s.nd.id := fun s hs => by
    obtain ⟨n, h1, _, h3⟩ := hfin s hs
    rw [h3]; exact findN_id h1
  have hU : ∀ u ∈ undoL L P [], u.kind = 4 ∧ (u.nd.par, u.nd.rt) = ownV L u.nd.id ∧ ∃ n, findN (normL L) u.nd.id = some n ∧ n.kind ≠ 0 := fun u hu => by
    rcases (undo_mem L P []).1 u hu with h | ⟨s, hs, rfl⟩
    · cases h
    · obtain ⟨n, h1, h2, h3⟩ := hfin s hs
      have hi := hgid s hs
      refine ⟨rfl, ?_, n, ?_, h2⟩
      · simp only [mvS]
        unfold ownV
        rw [hi]
      · simp only [mvS]
        rw [hi, findN_norm]
        exact h1
  have hV1 := (right_setV hN).1 a2
  have hV0 : ∀ n ∈ normL L, right8 (ownV L n.id).1 (ownV L n.id).2 = true := (right_setV hN).1 (by rw [hown]; exact hN)
  obtain ⟨b1, b2⟩ := go_back hN hnn (undoL L P []) 0 (updV (ownV L) P) (ownV L) hV1 hV0 hU
  have hUl : ¬ ((undoL L P []).length < 1 ∨ 6 < (undoL L P []).length) := by
    have : 0 < (undoL L P []).length := by
      cases hP : P with
      | nil => exact absurd hP hPn
      | cons s t =>
        obtain ⟨u, hu, _⟩ := undo_has L P [] hgid s (by rw [hP]; simp)
        rw [hP] at hu
        exact List.length_pos_of_mem hu
    omega
  have happ2 : applyN (applyN L P).2.2 (undoL L P []) = goN 0 (setV (normL L) (updV (ownV L) P)) (undoL L P []) := by
    rw [happ, a1]
    unfold applyN
    rw [if_neg (by rw [checkN_zero.2 a2]; simp), if_neg hUl]
  rw [happ2]
  refine ⟨b1, ?_, hlen⟩
  rw [b2]
  have hend : setV (normL L) (updV (updV (ownV L) P) (undoL L P [])) = normL L := setV_own (normL_perm L) hr.uni fun n hn => by
    refine updV_own _ _ _ _ (fun u hu => (hU u hu).2.1) ?_
    by_cases hin : ∃ s ∈ P, s.nd.id = n.id
    · obtain ⟨s, hs, e⟩ := hin
      obtain ⟨u, hu, e2⟩ := undo_has L P [] hgid s hs
      exact .inl ⟨u, hu, e2.trans e⟩
    · exact .inr (updV_none P _ _ fun s hs e => hin ⟨s, hs, e⟩)
  rw [hend]
  exact same_norm
end Go.Proofs.Ythncfkpamokomaa
