/- How deep nodes stand, all ways to sinks, and the walk of GraphDepths. -/
import Derived.Test.YtddngibfhklnfaaGrS
import Derived.Maps.RangeRun
import Derived.WideMake
import Derived.Test.YtddngibfhklnfaaGraphGrows
import Derived.Deep.RegionHeld3
namespace Go.Proofs.Ytddngibfhklnfaa
/-- What a list of numbers and depths has for a number; 0: nothing. -/
def getD : List (Int × Nat) → Int → Nat
  | [], _ => 0
  | e :: E, x => if e.1 = x then e.2 else getD E x
def deepE (E : List (Int × Nat)) (l : List Int) : Nat := l.foldl (fun a f => max a (getD E f + 1)) 0
theorem deepE_snoc (E : List (Int × Nat)) (l : List Int) (f : Int) : deepE E (l ++ [f]) = max (deepE E l) (getD E f + 1) := by
  unfold deepE; rw [List.foldl_append]; rfl
def depE (L : List Nd) : List Int → List (Int × Nat) → List (Int × Nat)
  | [], E => E
  | id :: l, E => depE L l (E ++ [(id, deepE E (getN L id).fr)])
theorem depE_snoc (L : List Nd) : ∀ (l : List Int) (id : Int) (E : List (Int × Nat)), depE L (l ++ [id]) E = depE L l E ++ [(id, deepE (depE L l E) (getN L id).fr)]
  | [], _, _ => rfl
  | x :: l, id, E => by
    show depE L (l ++ [id]) _ = depE L l _ ++ _
    rw [depE_snoc L l id]
    rfl
theorem depE_keys (L : List Nd) : ∀ (l : List Int) (E : List (Int × Nat)), (depE L l E).map (·.1) = E.map (·.1) ++ l
  | [], E => by simp [depE]
  | x :: l, E => by
    show (depE L l _).map (·.1) = _
    rw [depE_keys L l]
    simp
theorem depE_len (L : List Nd) (l : List Int) : (depE L l []).length = l.length := by
  have := congrArg List.length (depE_keys L l [])
  simpa using this
theorem getD_app {E F : List (Int × Nat)} {x : Int} (h : x ∈ E.map (·.1)) : getD (E ++ F) x = getD E x := by
  induction E with
  | nil => simp at h
  | cons e E ih =>
    show (if e.1 = x then e.2 else getD (E ++ F) x) = if e.1 = x then e.2 else getD E x
    by_cases c : e.1 = x
    · rw [if_pos c, if_pos c]
    · rw [if_neg c, if_neg c]
      refine ih ?_
      rcases List.mem_cons.1 h with h | h
      · exact absurd h.symm c
      · exact h
theorem getD_new {E F : List (Int × Nat)} {x : Int} (h : x ∉ E.map (·.1)) : getD (E ++ F) x = getD F x := by
  induction E with
  | nil => rfl
  | cons e E ih =>
    have hx : e.1 ≠ x := fun c => h (by simp [c])
    show (if e.1 = x then e.2 else getD (E ++ F) x) = _
    rw [if_neg hx]
    exact ih fun hm => h (by simp only [List.map_cons, List.mem_cons]; exact .inr hm)
theorem deepE_congr {E F : List (Int × Nat)} {l : List Int} (h : ∀ f ∈ l, getD E f = getD F f) : deepE E l = deepE F l := by
  unfold deepE
  generalize 0 = a
  induction l generalizing a with
  | nil => rfl
  | cons f l ih =>
    show List.foldl _ (max a (getD E f + 1)) l = List.foldl _ (max a (getD F f + 1)) l
    rw [h f (by simp)]
    exact ih (fun g hg => h g (by simp [hg])) _
theorem depE_split (L : List Nd) : ∀ (a b : List Int) (E : List (Int × Nat)), depE L (a ++ b) E = depE L b (depE L a E)
  | [], _, _ => rfl
  | _ :: a, b, _ => depE_split L a b _
theorem depE_more (L : List Nd) : ∀ (l : List Int) (E : List (Int × Nat)), ∃ F, depE L l E = E ++ F
  | [], E => ⟨[], by simp [depE]⟩
  | x :: l, E => by
    obtain ⟨F, h⟩ := depE_more L l (E ++ [(x, deepE E (getN L x).fr)])
    exact ⟨[(x, deepE E (getN L x).fr)] ++ F, by show depE L l _ = _; rw [h]; simp⟩
/-- Each node of a right graph stands one deeper than the deepest of its Froms. -/
theorem deep_says {L : List Nd} (h : RightG L) {n : Nd} (hn : n ∈ L) : n.id ∈ (depE L (sortN L) []).map (·.1) ∧ getD (depE L (sortN L) []) n.id = deepE (depE L (sortN L) []) n.fr := by
  have hm := complete_all h.complete hn
  rw [depE_keys]
  refine ⟨by simpa using hm, ?_⟩
  obtain ⟨k, hk⟩ := List.getElem?_of_mem hm
  obtain ⟨x, hx, hnot, hall⟩ := order_says h hk
  rw [findN_one h.uni hn] at hx
  injection hx with hx
  subst hx
  have hkl := (List.getElem?_eq_some_iff.1 hk).1
  have e : sortN L = (sortN L).take k ++ n.id :: (sortN L).drop (k + 1) := by
    conv => lhs; rw [← List.take_append_drop k (sortN L)]
    rw [List.drop_eq_getElem_cons hkl, (List.getElem?_eq_some_iff.1 hk).2]
  obtain ⟨E, hE⟩ : ∃ E, E = depE L ((sortN L).take k) [] := ⟨_, rfl⟩
  have hkey : E.map (·.1) = (sortN L).take k := by rw [hE, depE_keys]; rfl
  obtain ⟨F, hF⟩ := depE_more L ((sortN L).drop (k + 1)) (E ++ [(n.id, deepE E n.fr)])
  have hd : depE L (sortN L) [] = E ++ [(n.id, deepE E n.fr)] ++ F := by
    rw [e, depE_split, ← hE]
    show depE L _ (E ++ [(n.id, deepE E (getN L n.id).fr)]) = _
    rw [getN_some (findN_one h.uni hn)]
    exact hF
  rw [hd]
  have h1 : getD (E ++ [(n.id, deepE E n.fr)] ++ F) n.id = deepE E n.fr := by
    rw [List.append_assoc, getD_new (by rw [hkey]; exact hnot)]
    show (if n.id = n.id then _ else _) = _
    rw [if_pos rfl]
  rw [h1]
  refine deepE_congr fun f hf => ?_
  rw [List.append_assoc, getD_app (by rw [hkey]; exact (hall f hf).1)]
theorem orderN_bad {L : List Nd} (h : checkN L ≠ 0) : orderN L = [] := by
  unfold orderN
  rw [if_neg h]
end Go.Proofs.Ytddngibfhklnfaa
namespace Go.Proofs.Ytddngibfhklnfaa
/-- All ways on, from a node to a sink. -/
def waysT (L : List Nd) : Nat → Int → List (List Int)
  | 0, _ => []
  | s + 1, id => if (getN L id).kind = 2 then [[]] else (childN L id).flatMap fun c => (waysT L s c).map fun t => c :: t
/-- A way up, by From, to the source. -/
def Up (L : List Nd) : List Int → Prop
  | [] => False
  | [x] => x = 0
  | f :: g :: r => g ∈ (getN L f).fr ∧ Up L (g :: r)
def sinkTop (L : List Nd) (q : List Int) : Prop := ∃ x r, q = x :: r ∧ (getN L x).kind = 2
theorem getN_ids {L : List Nd} {x f : Int} (h : f ∈ (getN L x).fr) : ∃ n, findN L x = some n ∧ getN L x = n := by
  cases hf : findN L x with
  | none => rw [getN_none hf] at h; cases h
  | some n => exact ⟨n, rfl, getN_some hf⟩
theorem child_of {L : List Nd} {c id : Int} (h : id ∈ (getN L c).fr) : c ∈ childN L id := by
  obtain ⟨n, h1, h2⟩ := getN_ids h
  rw [h2] at h
  exact childN_mem.2 ⟨n, findN_mem h1, findN_id h1, h⟩
theorem of_child {L : List Nd} (hu : (idsN L).Nodup) {c id : Int} (h : c ∈ childN L id) : id ∈ (getN L c).fr := by
  obtain ⟨n, h1, h2, h3⟩ := childN_mem.1 h
  rw [← h2, getN_some (findN_one hu h1)]
  exact h3
/-- What stands above something is no sink, and in the graph. -/
theorem from_kind {L : List Nd} (h : RightG L) {x f : Int} (hf : f ∈ (getN L x).fr) : ∃ m, findN L f = some m ∧ getN L f = m ∧ m.kind ≠ 2 := by
  obtain ⟨n, h1, h2⟩ := getN_ids hf
  rw [h2] at hf
  obtain ⟨m, h3, h4⟩ := froms_there (h.each n (findN_mem h1)) f hf
  exact ⟨m, h3, getN_some h3, h4⟩
theorem ways_up {L : List Nd} (h : RightG L) : ∀ {s : Nat} {id : Int} {t p : List Int}, t ∈ waysT L s id → Up L (id :: p) → Up L (t.reverse ++ id :: p) ∧ sinkTop L (t.reverse ++ id :: p)
  | 0, _, _, _, ht, _ => by cases ht
  | s + 1, id, t, p, ht, hu => by
    unfold waysT at ht
    split at ht
    · rename_i hk
      have := List.mem_singleton.1 ht
      subst this
      exact ⟨hu, id, p, rfl, hk⟩
    · obtain ⟨c, hc, ht⟩ := List.mem_flatMap.1 ht
      obtain ⟨z, hz, rfl⟩ := List.mem_map.1 ht
      have := ways_up h (p := id :: p) hz ⟨of_child h.uni hc, hu⟩
      simpa using this
theorem up_tail {L : List Nd} : ∀ {a : List Int} {x : Int} {r : List Int}, Up L (a ++ x :: r) → Up L (x :: r)
  | [], _, _, h => h
  | [_], _, _, h => h.2
  | _ :: z :: a, _, _, h => up_tail (a := z :: a) h.2
theorem up_ways {L : List Nd} (h : RightG L) : ∀ {t : List Int} {s : Nat} {id : Int} {p : List Int}, L.length ≤ posI (sortN L) id + s → (∃ n ∈ L, n.id = id) → Up L (t.reverse ++ id :: p) → sinkTop L (t.reverse ++ id :: p) → t ∈ waysT L s id
  | t, 0, id, p, hs, ⟨n, hn, e⟩, _, _ => by
    exfalso
    have := posI_get (complete_all h.complete hn)
    have h2 := (List.getElem?_eq_some_iff.1 this).1
    rw [h.complete, e] at h2
    omega
  | [], s + 1, id, p, _, _, _, ⟨x, r, e, hk⟩ => by
    simp at e
    unfold waysT
    rw [e.1, if_pos hk]
    simp
  | c :: t, s + 1, id, p, hs, hid, hu, hk => by
    have e : (c :: t).reverse ++ id :: p = t.reverse ++ c :: id :: p := by simp
    rw [e] at hu hk
    have h1 := (up_tail hu).1
    obtain ⟨m, h2, h3, h4⟩ := from_kind h h1
    unfold waysT
    rw [if_neg (by rw [h3]; exact h4)]
    have hc := child_of h1
    refine List.mem_flatMap.2 ⟨c, hc, List.mem_map.2 ⟨t, ?_, rfl⟩⟩
    obtain ⟨n, g1, g2, g3⟩ := childN_mem.1 hc
    refine up_ways h ?_ ⟨n, g1, g2⟩ hu hk
    have := complete_rank h.uni h.complete n g1 id g3
    rw [g2] at this
    omega
theorem ways_nodup {L : List Nd} : ∀ (s : Nat) (id : Int), (waysT L s id).Nodup
  | 0, _ => List.nodup_nil
  | s + 1, id => by
    unfold waysT
    split
    · simp
    · have hc : (childN L id).Nodup := rises_nodup (childN_rises L id)
      generalize childN L id = l at hc
      induction l with
      | nil => exact List.nodup_nil
      | cons c l ih =>
        have hc' := List.nodup_cons.1 hc
        rw [List.flatMap_cons, List.nodup_append]
        refine ⟨?_, ih hc'.2, fun a ha b hb => ?_⟩
        · have := ways_nodup (L := L) s c
          rw [List.nodup_iff_pairwise_ne, List.pairwise_map]
          exact (List.nodup_iff_pairwise_ne.1 this).imp fun hne e => hne (by injection e)
        · rintro rfl
          obtain ⟨z, _, rfl⟩ := List.mem_map.1 ha
          obtain ⟨c', hc2, hb⟩ := List.mem_flatMap.1 hb
          obtain ⟨z', _, e⟩ := List.mem_map.1 hb
          injection e with e _
          exact hc'.1 (e ▸ hc2)
theorem up_root {L : List Nd} (h : RightG L) {g : Int} {q : List Int} (hq : Up L (0 :: g :: q)) : False := by
  obtain ⟨n, h1, h2⟩ := getN_ids hq.1
  have hn := nodeB_iff.1 (h.each n (findN_mem h1))
  have h0 := (kindB_zero hn.2.2.1).1 (findN_id h1)
  have h3 := hn.2.2.1
  unfold kindB at h3
  rw [if_pos h0] at h3
  simp only [Bool.and_eq_true, decide_eq_true_eq] at h3
  have := hq.1
  rw [h2, List.eq_nil_of_length_eq_zero h3.2.1] at this
  cases this
/-- A way up from what is no sink is the only one. -/
theorem up_one {L : List Nd} (h : RightG L) : ∀ {p q : List Int} {f : Int}, (getN L f).kind ≠ 2 → Up L (f :: p) → Up L (f :: q) → p = q
  | [], [], _, _, _, _ => rfl
  | [], g :: q, f, _, hp, hq => by
    have hp : f = 0 := hp
    subst hp
    exact absurd hq (up_root h)
  | g :: p, [], f, _, hp, hq => by
    have hq : f = 0 := hq
    subst hq
    exact absurd hp (up_root h)
  | g :: p, g' :: q, f, hk, hp, hq => by
    obtain ⟨n, h1, h2⟩ := getN_ids hp.1
    have hn := nodeB_iff.1 (h.each n (findN_mem h1))
    have h3 := hn.2.2.1
    have hl : n.fr.length ≤ 1 := by
      unfold kindB at h3
      rw [h2] at hk
      by_cases k0 : n.kind = 0
      · rw [if_pos k0] at h3
        simp only [Bool.and_eq_true, decide_eq_true_eq] at h3
        omega
      rw [if_neg k0] at h3
      by_cases k1 : n.kind = 1
      · rw [if_pos k1] at h3
        simp only [Bool.and_eq_true, decide_eq_true_eq] at h3
        omega
      rw [if_neg k1, if_neg hk] at h3
      cases h3
    have e : g = g' := by
      have a := hp.1
      have b := hq.1
      rw [h2] at a b
      match hfr : n.fr with
      | [] => rw [hfr] at a; cases a
      | [y] => rw [hfr] at a b; rw [List.mem_singleton.1 a, List.mem_singleton.1 b]
      | y :: z :: r => rw [hfr] at hl; simp at hl
    subst e
    obtain ⟨m, _, e2, hm⟩ := from_kind h hp.1
    congr 1
    exact up_one h (by rw [e2]; exact hm) hp.2 hq.2
theorem up_exists {L : List Nd} (h : RightG L) {r : Int → Nat} (hr : ∀ n ∈ L, ∀ f ∈ n.fr, r f < r n.id) : ∀ (k : Nat) (n : Nd), n ∈ L → n.kind ≠ 2 → r n.id < k → ∃ p, Up L (n.id :: p)
  | 0, _, _, _, hk => by omega
  | k + 1, n, hn, hnk, hk => by
    have hb := nodeB_iff.1 (h.each n hn)
    have h3 := hb.2.2.1
    unfold kindB at h3
    by_cases k0 : n.kind = 0
    · refine ⟨[], ?_⟩
      exact (kindB_zero hb.2.2.1).2 k0
    rw [if_neg k0] at h3
    by_cases k1 : n.kind = 1
    · rw [if_pos k1] at h3
      simp only [Bool.and_eq_true, decide_eq_true_eq] at h3
      match hfr : n.fr with
      | [] => rw [hfr] at h3; simp at h3
      | f :: l =>
        have hf : f ∈ n.fr := by rw [hfr]; simp
        obtain ⟨m, hm, hmk⟩ := hb.2.2.2.2 f hf
        have h1 := hr n hn f hf
        have h2 := findN_id hm
        obtain ⟨p, hp⟩ := up_exists h hr k m (findN_mem hm) hmk (by rw [h2]; omega)
        rw [h2] at hp
        refine ⟨f :: p, ?_, hp⟩
        rw [getN_some (findN_one h.uni hn)]
        exact hf
    rw [if_neg k1, if_neg hnk] at h3
    cases h3
def pairsN (L : List Nd) : List (Int × Int) := L.flatMap fun n => if n.kind = 2 then n.fr.map fun f => (n.id, f) else []
def manyN (L : List Nd) : Nat := L.foldl (fun a n => if n.kind = 2 then a + n.fr.length else a) 0
theorem manyN_snoc (L : List Nd) (n : Nd) : manyN (L ++ [n]) = if n.kind = 2 then manyN L + n.fr.length else manyN L := by
  unfold manyN; rw [List.foldl_append]; rfl
theorem manyN_pairs (L : List Nd) : (pairsN L).length = manyN L := by
  have key : ∀ (L : List Nd) (a : Nat), a + (pairsN L).length = L.foldl (fun a n => if n.kind = 2 then a + n.fr.length else a) a := by
    intro L
    induction L with
    | nil => intro a; simp [pairsN]
    | cons n L ih =>
      intro a
      show _ = List.foldl _ (if n.kind = 2 then a + n.fr.length else a) L
      rw [← ih]
      have e : pairsN (n :: L) = (if n.kind = 2 then n.fr.map fun f => (n.id, f) else []) ++ pairsN L := by unfold pairsN; rw [List.flatMap_cons]
      rw [e, List.length_append]
      by_cases hk : n.kind = 2 <;> simp [hk] <;> omega
  have := key L 0
  unfold manyN
  omega
theorem pairs_mem {L : List Nd} {s f : Int} : (s, f) ∈ pairsN L ↔ ∃ n ∈ L, n.kind = 2 ∧ n.id = s ∧ f ∈ n.fr := by
  unfold pairsN
  rw [List.mem_flatMap]
  constructor
  · rintro ⟨n, hn, h⟩
    split at h
    · obtain ⟨g, hg, e⟩ := List.mem_map.1 h
      injection e with e1 e2
      subst e1
      subst e2
      exact ⟨n, hn, by assumption, rfl, hg⟩
    · cases h
  · rintro ⟨n, hn, hk, rfl, hf⟩
    exact ⟨n, hn, by rw [if_pos hk]; exact List.mem_map.2 ⟨f, hf, rfl⟩⟩
theorem pairs_nodup {L : List Nd} (h : RightG L) : (pairsN L).Nodup := by
  have hfr : ∀ n ∈ L, n.fr.Nodup := fun n hn => by
    obtain ⟨i, hi⟩ := List.getElem?_of_mem hn
    have hb := (nodeB_iff.1 (h.each n hn)).2.2.1
    unfold kindB at hb
    by_cases k0 : n.kind = 0
    · rw [if_pos k0] at hb
      simp only [Bool.and_eq_true, decide_eq_true_eq] at hb
      rw [List.eq_nil_of_length_eq_zero hb.2.1]
      exact List.nodup_nil
    rw [if_neg k0] at hb
    by_cases k1 : n.kind = 1
    · rw [if_pos k1] at hb
      simp only [Bool.and_eq_true, decide_eq_true_eq] at hb
      match hf : n.fr with
      | [] => exact List.nodup_nil
      | [y] => simp
      | y :: z :: r => rw [hf] at hb; simp at hb
    rw [if_neg k1] at hb
    by_cases k2 : n.kind = 2
    · rw [if_pos k2] at hb
      simp only [Bool.and_eq_true, decide_eq_true_eq, unlikeB] at hb
      exact hb.2.2.2.1
    · rw [if_neg k2] at hb
      cases hb
  have hu := h.uni
  clear h
  induction L with
  | nil => exact List.nodup_nil
  | cons n L ih =>
    have hu' := List.nodup_cons.1 hu
    have e : pairsN (n :: L) = (if n.kind = 2 then n.fr.map fun f => (n.id, f) else []) ++ pairsN L := by unfold pairsN; rw [List.flatMap_cons]
    rw [e, List.nodup_append]
    refine ⟨?_, ih (fun m hm => hfr m (by simp [hm])) hu'.2, fun a ha b hb => ?_⟩
    · split
      · rw [List.nodup_iff_pairwise_ne, List.pairwise_map]
        exact (List.nodup_iff_pairwise_ne.1 (hfr n (by simp))).imp fun hne e => hne (by injection e)
      · exact List.nodup_nil
    · rintro rfl
      obtain ⟨x, y⟩ := a
      split at ha
      · obtain ⟨g, _, e⟩ := List.mem_map.1 ha
        injection e with e1 e2
        subst e1
        obtain ⟨m, hm, _, e3, _⟩ := pairs_mem.1 hb
        exact hu'.1 (List.mem_map.2 ⟨m, hm, e3⟩)
      · cases ha
theorem nodup_subG {α : Type} [DecidableEq α] : ∀ {a b : List α}, a.Nodup → (∀ x ∈ a, x ∈ b) → a.length ≤ b.length
  | [], _, _, _ => by simp
  | x :: a, b, h, hs => by
    obtain ⟨h1, h2⟩ := List.nodup_cons.1 h
    have hx := hs x (by simp)
    have := nodup_subG (a := a) (b := b.erase x) h2 fun y hy => by
      have hne : y ≠ x := fun e => h1 (e ▸ hy)
      exact (List.mem_erase_of_ne hne).2 (hs y (by simp [hy]))
    rw [List.length_erase_of_mem hx] at this
    have := List.length_pos_of_mem hx
    simp only [List.length_cons]; omega
def topTwo : List Int → Int × Int
  | x :: f :: _ => (x, f)
  | _ => (0, 0)
theorem up_end {L : List Nd} : ∀ {q : List Int}, Up L q → ∃ t : List Int, q = t.reverse ++ [0]
  | [], h => by cases h
  | [x], h => ⟨[], by have h : x = 0 := h; subst h; rfl⟩
  | x :: y :: r, h => by
    obtain ⟨t, e⟩ := up_end h.2
    exact ⟨t ++ [x], by rw [e]; simp⟩
theorem ways_mem {L : List Nd} (h : RightG L) {t : List Int} : t ∈ waysT L 8 0 ↔ Up L (t.reverse ++ [0]) ∧ sinkTop L (t.reverse ++ [0]) := by
  constructor
  · exact fun ht => ways_up h (p := []) ht rfl
  · rintro ⟨h1, h2⟩
    obtain ⟨z, hz, e⟩ := List.mem_map.1 h.zero
    exact up_ways h (p := []) (by have := h.len; omega) ⟨z, hz, e⟩ h1 h2
theorem zero_kind {L : List Nd} (h : RightG L) : (getN L 0).kind = 0 := by
  obtain ⟨z, hz, e⟩ := List.mem_map.1 h.zero
  have := findN_one h.uni hz
  rw [e] at this
  rw [getN_some this]
  exact (kindB_zero (nodeB_iff.1 (h.each z hz)).2.2.1).1 e
theorem sink_two {L : List Nd} (h : RightG L) {q : List Int} (hu : Up L q) (hs : sinkTop L q) : ∃ x f r, q = x :: f :: r ∧ f ∈ (getN L x).fr ∧ Up L (f :: r) ∧ (getN L x).kind = 2 := by
  obtain ⟨x, r, rfl, hk⟩ := hs
  cases r with
  | nil =>
    have hu : x = 0 := hu
    subst hu
    rw [zero_kind h] at hk
    cases hk
  | cons f r => exact ⟨x, f, r, rfl, hu.1, hu.2, hk⟩
theorem ways_many {L : List Nd} (h : RightG L) : (waysT L 8 0).length = manyN L := by
  rw [← manyN_pairs]
  have hmap : ((waysT L 8 0).map fun t => topTwo (t.reverse ++ [0])).length = (waysT L 8 0).length := by simp
  rw [← hmap]
  have hnd : ((waysT L 8 0).map fun t => topTwo (t.reverse ++ [0])).Nodup := by
    rw [List.nodup_iff_pairwise_ne, List.pairwise_map]
    refine List.Pairwise.imp_of_mem ?_ (List.nodup_iff_pairwise_ne.1 (ways_nodup (L := L) 8 0))
    intro a b ha hb hne e
    obtain ⟨u1, s1⟩ := (ways_mem h).1 ha
    obtain ⟨u2, s2⟩ := (ways_mem h).1 hb
    obtain ⟨x, f, r, e1, g1, g2, g3⟩ := sink_two h u1 s1
    obtain ⟨x', f', r', e2, g1', g2', g3'⟩ := sink_two h u2 s2
    rw [e1, e2] at e
    injection e with ex ef
    subst ex
    subst ef
    obtain ⟨m, _, e3, hm⟩ := from_kind h g1
    have := up_one h (by rw [e3]; exact hm) g2 g2'
    subst this
    rw [← e2] at e1
    have := List.append_cancel_right e1
    exact hne (List.reverse_inj.1 this)
  refine Nat.le_antisymm (nodup_subG hnd ?_) (nodup_subG (pairs_nodup h) ?_)
  · intro y hy
    obtain ⟨t, ht, rfl⟩ := List.mem_map.1 hy
    obtain ⟨u1, s1⟩ := (ways_mem h).1 ht
    obtain ⟨x, f, r, e1, g1, g2, g3⟩ := sink_two h u1 s1
    rw [e1]
    obtain ⟨n, h1, h2⟩ := getN_ids g1
    rw [h2] at g1 g3
    exact pairs_mem.2 ⟨n, findN_mem h1, g3, findN_id h1, g1⟩
  · rintro ⟨s, f⟩ hy
    obtain ⟨n, hn, hk, rfl, hf⟩ := pairs_mem.1 hy
    obtain ⟨m, hm, hmk⟩ := froms_there (h.each n hn) f hf
    obtain ⟨r, hr⟩ := h.rank
    obtain ⟨p, hp⟩ := up_exists h hr _ m (findN_mem hm) hmk (Nat.lt_succ_self _)
    rw [findN_id hm] at hp
    have hg := getN_some (findN_one h.uni hn)
    have hu : Up L (n.id :: f :: p) := ⟨by rw [hg]; exact hf, hp⟩
    obtain ⟨t, ht⟩ := up_end hu
    refine List.mem_map.2 ⟨t, (ways_mem h).2 ⟨by rw [← ht]; exact hu, by rw [← ht]; exact ⟨n.id, f :: p, rfl, by rw [hg]; exact hk⟩⟩, ?_⟩
    rw [← ht]
    rfl
end Go.Proofs.Ytddngibfhklnfaa
namespace Go.Proofs.Ytddngibfhklnfaa
open Go.RowKit Go.Fb
/-- Block r is the map[int]int that keeps E. -/
def DMap (w : World) (r : Nat) (E : List (Int × Nat)) : Prop :=
  ∃ es clock, w.heap[r]? = some (.map es clock) ∧ es.toList.map (fun e => (e.key, e.val)) = E.map (fun x => (Value.int .i64 x.1, Value.int .i64 (x.2 : Nat)))
theorem dfind (x : Int) : ∀ (es : List MapEntry) (E : List (Int × Nat)) (i : Nat), es.map (fun e => (e.key, e.val)) = E.map (fun x => (Value.int .i64 x.1, Value.int .i64 (x.2 : Nat))) →
    (x ∉ E.map (·.1) ∧ Instr.findNow (.int .i64) (.int .i64 x) es i = some none) ∨ (x ∈ E.map (·.1) ∧ ∃ j, Instr.findNow (.int .i64) (.int .i64 x) es i = some (some (j, .int .i64 (getD E x))))
  | [], [], _, _ => .inl ⟨by simp, rfl⟩
  | [], _ :: _, _, h => by simp at h
  | e :: es, [], _, h => by simp at h
  | e :: es, k :: ks, i, h => by
    simp only [List.map_cons, List.cons.injEq, Prod.mk.injEq] at h
    obtain ⟨⟨h1, h2⟩, h3⟩ := h
    by_cases c : k.1 = x
    · right
      refine ⟨by simp [c], i, ?_⟩
      simp [Instr.findNow, h1, Instr.sameNow, h2, getD, c]
    · have hc : (x == k.1) = false := by rw [beq_eq_false_iff_ne]; exact fun e => c e.symm
      rcases dfind x es ks (i + 1) h3 with ⟨g1, g2⟩ | ⟨g1, j, g2⟩
      · left
        refine ⟨?_, by simp [Instr.findNow, h1, Instr.sameNow, hc, g2]⟩
        rw [List.map_cons, List.mem_cons]
        rintro (e | e)
        · exact c e.symm
        · exact g1 e
      · right
        refine ⟨by rw [List.map_cons, List.mem_cons]; exact .inr g1, j, ?_⟩
        simp [Instr.findNow, h1, Instr.sameNow, hc, g2, getD, c]
theorem getD_none {E : List (Int × Nat)} {x : Int} (h : x ∉ E.map (·.1)) : getD E x = 0 := by
  induction E with
  | nil => rfl
  | cons e E ih =>
    have hx : e.1 ≠ x := fun c => h (by simp [c])
    show (if e.1 = x then e.2 else getD E x) = 0
    rw [if_neg hx]
    exact ih fun hm => h (by simp only [List.map_cons, List.mem_cons]; exact .inr hm)
theorem DMap.lt {w : World} {r : Nat} {E : List (Int × Nat)} (h : DMap w r E) : r < w.heap.size := by
  obtain ⟨es, clock, hb, _⟩ := h
  rcases Nat.lt_or_ge r w.heap.size with h | h
  · exact h
  · rw [Array.getElem?_eq_none h] at hb; cases hb
theorem DMap.new (w : World) : DMap (w.alloc (.map #[] 0)) w.heap.size [] := ⟨#[], 0, heap_alloc_new w _, rfl⟩
theorem DMap.fr {w w' : World} {r B : Nat} {L : List Nat} {E : List (Int × Nat)} (h : DMap w r E) (hf : Fr B L w w') (h1 : r < B) (h2 : r ∉ L) : DMap w' r E := by
  obtain ⟨es, clock, hb, he⟩ := h
  exact ⟨es, clock, (hf.block r h1 h2).trans hb, he⟩
theorem DMap.block {w : World} {r : Nat} {E : List (Int × Nat)} (h : DMap w r E) : ∃ es clock, w.heap[r]? = some (.map es clock) ∧ es.size = E.length := by
  obtain ⟨es, clock, hb, he⟩ := h
  exact ⟨es, clock, hb, by simpa using congrArg List.length he⟩
theorem DMap.get {w : World} {r : Nat} {E : List (Int × Nat)} (h : DMap w r E) (x : Int) : (Instr.lookup 44 (.map (some r)) (.int .i64 x) false).run Try.prog w = .ok (.int .i64 (getD E x)) w := by
  obtain ⟨es, clock, hb, he⟩ := h
  have hc : ∀ b, (Instr.checkKey b 10000 3 (.int .i64 x)).run Try.prog w = .ok () w := fun b =>
    MapKept.run_checkKey (k := .int .i64 x) Try.underlying3 (by simp [MapKept.IsKey]) b 9999
  have hz : (zeroValue 3).run Try.prog w = .ok (.int .i64 0) w := by kernel_rfl
  rcases dfind x _ _ 0 he with ⟨h1, h2⟩ | ⟨h1, j, h2⟩
  · rw [getD_none h1]
    simp [Instr.lookup, run_underlying Try.underlying44, MapKept.run_getObj_map hb, hc, MapKept.run_findKey Try.underlying3 h2, hz, Result.andThen]
  · simp [Instr.lookup, run_underlying Try.underlying44, MapKept.run_getObj_map hb, hc, MapKept.run_findKey Try.underlying3 h2, Result.andThen]
theorem DMap.has {w : World} {r : Nat} {E : List (Int × Nat)} (h : DMap w r E) (x : Int) : (Instr.lookup 44 (.map (some r)) (.int .i64 x) true).run Try.prog w = .ok (.tuple #[.int .i64 (getD E x), .bool (decide (x ∈ E.map (·.1)))]) w := by
  obtain ⟨es, clock, hb, he⟩ := h
  have hc : ∀ b, (Instr.checkKey b 10000 3 (.int .i64 x)).run Try.prog w = .ok () w := fun b =>
    MapKept.run_checkKey (k := .int .i64 x) Try.underlying3 (by simp [MapKept.IsKey]) b 9999
  have hz : (zeroValue 3).run Try.prog w = .ok (.int .i64 0) w := by kernel_rfl
  rcases dfind x _ _ 0 he with ⟨h1, h2⟩ | ⟨h1, j, h2⟩
  · rw [getD_none h1, decide_eq_false h1]
    simp [Instr.lookup, run_underlying Try.underlying44, MapKept.run_getObj_map hb, hc, MapKept.run_findKey Try.underlying3 h2, hz, Result.andThen]
  · rw [decide_eq_true h1]
    simp [Instr.lookup, run_underlying Try.underlying44, MapKept.run_getObj_map hb, hc, MapKept.run_findKey Try.underlying3 h2, Result.andThen]
theorem DMap.put {w : World} {r : Nat} {E : List (Int × Nat)} (h : DMap w r E) {x : Int} {v : Nat} (hx : x ∉ E.map (·.1)) :
    ∃ w', (Instr.mapUpdate 44 (.map (some r)) (.int .i64 x) (.int .i64 (v : Nat))).run Try.prog w = .ok () w' ∧ DMap w' r (E ++ [(x, v)]) ∧ Fr w.heap.size [r] w w' := by
  have hlt := h.lt
  obtain ⟨es, clock, hb, he⟩ := h
  have hc : (Instr.checkKey false 10000 3 (.int .i64 x)).run Try.prog w = .ok () w :=
    MapKept.run_checkKey (k := .int .i64 x) Try.underlying3 (by simp [MapKept.IsKey]) false 9999
  have hfn : Instr.findNow (.int .i64) (.int .i64 x) es.toList 0 = some none := by
    rcases dfind x _ _ 0 he with ⟨_, h2⟩ | ⟨h1, _⟩
    · exact h2
    · exact absurd h1 hx
  refine ⟨{ w with heap := w.heap.setIfInBounds r (.map (es.push { key := .int .i64 x, val := .int .i64 (v : Nat), born := clock }) (clock + 1)) }, ?_, ⟨es.push { key := .int .i64 x, val := .int .i64 (v : Nat), born := clock }, clock + 1, by simp [hlt], ?_⟩, ⟨rfl, rfl, rfl, by simp, fun k _ hk => ?_⟩⟩
  · simp [Instr.mapUpdate, run_underlying Try.underlying44, MapKept.run_getObj_map hb, hc, MapKept.run_findKey Try.underlying3 hfn, MapKept.run_setObj_map _ hb, Result.andThen]
  · simp [he]
  · have : r ≠ k := fun h => hk (by simp [h])
    simp [this]
end Go.Proofs.Ytddngibfhklnfaa
namespace Go.Proofs.Ytddngibfhklnfaa
open Go.RowKit Go.Fb
theorem deepE_le {E : List (Int × Nat)} {m : Nat} (h : ∀ x, getD E x ≤ m) (l : List Int) : deepE E l ≤ m + 1 := by
  unfold deepE
  have key : ∀ (l : List Int) (a : Nat), a ≤ m + 1 → l.foldl (fun a f => max a (getD E f + 1)) a ≤ m + 1 := by
    intro l
    induction l with
    | nil => exact fun _ h => h
    | cons f l ih => exact fun a ha => ih _ (Nat.max_le.2 ⟨ha, by have := h f; omega⟩)
  exact key l 0 (by omega)
theorem depE_small (L : List Nd) : ∀ (l : List Int) (E : List (Int × Nat)), (∀ x, getD E x ≤ E.length) → ∀ x, getD (depE L l E) x ≤ (depE L l E).length
  | [], _, h => h
  | y :: l, E, h => by
    refine depE_small L l _ fun x => ?_
    have hv := deepE_le h (getN L y).fr
    by_cases c : x ∈ E.map (·.1)
    · rw [getD_app c]
      have := h x
      simp
      omega
    · rw [getD_new c]
      show (if y = x then _ else 0) ≤ _
      split
      · simpa using hv
      · simp
theorem orderN_nodup (L : List Nd) : (orderN L).Nodup := by
  unfold orderN
  split
  · exact (sortN_ord L).nodup
  · exact List.nodup_nil
theorem ntake {l : List Int} (h : l.Nodup) {j : Nat} {f : Int} (hf : l[j]? = some f) : f ∉ l.take j := by
  intro hm
  obtain ⟨i, hi⟩ := List.getElem?_of_mem hm
  rw [List.getElem?_take] at hi
  split at hi
  · have hjl := (List.getElem?_eq_some_iff.1 hf).1
    have := (List.getElem?_inj (i := i) (j := j) (by omega) h).1 (by rw [hi, hf])
    omega
  · cases hi
/-- What holds in the loop of Depths. -/
structure DepJ (r : Nat) (L : List Nd) (l : List Int) (w w2 wr : World) (k : Nat) : Prop where
  fr2 : Fr w.heap.size [] w w2
  hr : w.heap.size ≤ r
  fr : Fr w2.heap.size [r] w2 wr
  map : DMap wr r (depE L (l.take k) [])
theorem DepJ.frw {r : Nat} {L : List Nd} {l : List Int} {w w2 wr : World} {k : Nat} (h : DepJ r L l w w2 wr k) : Fr w.heap.size [] w wr :=
  h.fr2.trans (h.fr.mono h.fr2.size (by have := h.hr; intro q hq hlt; simp at hq; omega))
theorem DepJ.mv {r : Nat} {L : List Nd} {l : List Int} {w w2 wr wi : World} {k : Nat} (h : DepJ r L l w w2 wr k) (hf : Fr wr.heap.size [] wr wi) : DepJ r L l w w2 wi k :=
  ⟨h.fr2, h.hr, h.fr.trans (hf.mono h.fr.size (by simp)), h.map.fr hf h.map.lt (by simp)⟩
set_option maxRecDepth 100000 in
set_option maxHeartbeats 4000000 in
theorem depths_any (A : Option Addr) (c B n : Nat) (M : List Ndm) (w : World) (h : Nds w B A n M) (hB : B ≤ w.heap.size) (hs : Small M) :
    Calls Try.prog 29 #[.slice A n c] w fun e w' => ∃ r, e = .returned (.map (some r)) ∧ w.heap.size ≤ r ∧ DMap w' r (depE (fstN M) (orderN (fstN M)) []) ∧ Fr w.heap.size [] w w' := by
  have hmk : (Instr.makeMap 44 none).run Try.prog w = .ok (.map (some w.heap.size)) (w.alloc (.map #[] 0)) := by
    simp [Instr.makeMap, Result.andThen]
  have HM := Lib.hid (DMap.new w)
  have F1 := Lib.hid ((Fr.refl w.heap.size [] w).alloc (Nat.le_refl _) (.map #[] 0))
  have HOR := order_any A c B n M (w.alloc (.map #[] 0)) (h.frw F1.out hB (by simp)) (Nat.le_trans hB F1.out.size) hs
  have HZ1 := Lib.hid (show (w.alloc (.map #[] 0)).heap.size = w.heap.size + 1 by simp)
  obtain ⟨L, hL⟩ : ∃ L, L = fstN M := ⟨_, rfl⟩
  obtain ⟨l, hl⟩ : ∃ l, l = orderN L := ⟨_, rfl⟩
  rw [← hL, ← hl] at HOR
  rw [← hL, ← hl]
  have HL8 := Lib.hid (show l.length ≤ 8 by rw [hl]; exact orderN_le L)
  have HND := Lib.hid (show l.Nodup by rw [hl]; exact orderN_nodup L)
  have HL := Lib.hid hL
  have H := Lib.hid h
  have HS := Lib.hid hs
  replace HOR := Lib.hid HOR
  clear h hs hL hl
  go_enter Try.func29, Try.ntmps29
  go_wp2_with fail
  generalize w.alloc (.map #[] 0) = w1 at *
  refine HOR.out.mono ?_
  rintro e w2 ⟨Ao, co, no, hno, rfl, hoo, f2⟩
  have hno8 : no ≤ 8 := by rw [hno]; exact HL8.out
  have HNO := Lib.hid hno
  have RO := Lib.hid (Reads.of_own hoo)
  have HOL := Lib.hid (show ∀ ad, Ao = some ad → ad.block ≠ w.heap.size from fun ad ha => by
    subst ha
    obtain ⟨A2, c2, hv2, hs2, _⟩ := ownsRow_shape hoo
    injection hv2 with h4 _ _
    subst h4
    have := (hs2 ad rfl).2.2.1
    have hz := HZ1.out
    omega)
  have HJ := Lib.hid (show DepJ w.heap.size L l w w2 w2 0 from ⟨F1.out.trans (f2.mono (B' := w.heap.size) (L' := []) F1.out.size (by simp)), Nat.le_refl _, Fr.refl _ _ _, HM.out.fr f2 HM.out.lt (by simp)⟩)
  clear hno hoo f2 HOR HM F1 HZ1 hmk
  go_wp2_with fail
  go_loopg [15] no (fun g s15 wr => ∃ k : Nat, k ≤ no ∧ g = no - k ∧ s15 = .int .i64 k ∧ RowKit.Hid (DepJ w.heap.size L l w w2 wr k))
  case atStart => exact ⟨0, Nat.zero_le _, rfl, rfl, HJ⟩
  case round =>
    obtain ⟨k, hk, rfl, rfl, HJ⟩ := hrel
    by_cases hkn : k < no
    · have hki : (k : Int) < (no : Int) := by omega
      have hk0 : (0 : Int) ≤ (k : Int) := by omega
      obtain ⟨i1, hi1⟩ : ∃ i1, l[k]? = some i1 := ⟨_, List.getElem?_eq_getElem (by rw [← HNO.out]; exact hkn)⟩
      have HI1 := Lib.hid hi1
      have hrd := RO.out.frL HJ.out.fr (Nat.le_refl _) (fun _ ad ha hm => HOL.out ad ha (by simpa using hm))
      obtain ⟨b1, o1, u1, rfl, hb1, hu1, hc1⟩ := hrd.one hkn
      rw [List.getElem?_map, hi1] at hu1
      simp at hu1
      subst hu1
      have HFI := find_any i1 A c B n M wr (H.out.frw HJ.out.frw hB (by simp)) (Nat.le_trans hB HJ.out.frw.size) HS.out
      rw [show M.map (·.1) = L from HL.out.symm] at HFI
      replace HFI := Lib.hid HFI
      clear hi1 hrd
      go_wp2_with fail
      refine HFI.out.mono ?_
      rintro e w3 hfo
      obtain ⟨x, sf, sp, hx, rfl, hin, f3⟩ := hfo.get
      have HJ3 := Lib.hid (HJ.out.mv f3)
      have HX := Lib.hid hx
      have hsm := getN_small HS.out i1
      rw [← HL.out, ← hx] at hsm
      obtain ⟨⟨Af, cf, hf1, hf2⟩, ⟨Ap, cp, hp1, _⟩⟩ := hin
      simp only at hf1 hp1 hf2
      subst hf1
      subst hp1
      obtain ⟨nf, hnf⟩ : ∃ z, z = x.fr.length := ⟨_, rfl⟩
      obtain ⟨np, hnp⟩ : ∃ z, z = x.pg.length := ⟨_, rfl⟩
      rw [← hnf] at hf2
      rw [← hnf, ← hnp]
      have HNF := Lib.hid hnf
      have hnf1 : nf ≤ 1000000 := by rw [hnf]; exact hsm.1
      have RF3 := Lib.hid hf2
      have fa := (Fr.refl w3.heap.size [] w3).alloc (Nat.le_refl _) (.cells (ndA x (.slice Af nf cf) (.slice Ap np cp)) 38)
      have BX := Lib.hid (Blk.new w3 38 (ndA x (.slice Af nf cf) (.slice Ap np cp)))
      have HJa := Lib.hid (HJ3.out.mv fa)
      have RFa := Lib.hid ((RF3.out.fr fa (Nat.le_refl _) (by simp)).more fa.size)
      obtain ⟨ob, hob⟩ : ∃ b, b = (findN L i1).isSome := ⟨_, rfl⟩
      rw [← hob]
      clear hfo hx hsm f3 HFI hf2 hnf hnp hc1 HJ HJ3 RF3 fa hob
      go_upto_region 6 with fail
      generalize w3.alloc (.cells (ndA x (.slice Af nf cf) (.slice Ap np cp)) 38) = wa at *
      generalize w3.heap.size = gx at *
      have q2 := BX.out.cell 2
      simp at q2
      obtain ⟨E, hE⟩ : ∃ E, E = depE L (l.take k) [] := ⟨_, rfl⟩
      have HMA := HJa.out.map
      rw [← hE] at HMA
      have HMP := Lib.hid HMA
      have HLK := fun y => HMA.get y
      have HSM := Lib.hid (show ∀ y, getD E y ≤ 8 from fun y => by
        have h1 := depE_small L (l.take k) [] (fun _ => Nat.le_refl _) y
        rw [depE_len, ← hE, List.length_take] at h1
        have := HL8.out
        omega)
      have HE := Lib.hid hE
      clear hE HMA
      go_wp2_with fail
      go_loopg [8, 28] nf (fun g s8 s28 wr => wr = wa ∧ ∃ j d : Nat, j ≤ nf ∧ g = nf - j ∧ s28 = .int .i64 j ∧ s8 = .int .i64 d ∧ d ≤ 9 ∧ RowKit.Hid (d = deepE E (x.fr.take j)))
      case atStart => exact ⟨rfl, 0, 0, Nat.zero_le _, rfl, rfl, rfl, by omega, Lib.hid rfl⟩
      case round =>
        obtain ⟨rfl, j, d, hj, rfl, rfl, rfl, hd9, HD⟩ := hrel
        by_cases hjn : j < nf
        · have hji : (j : Int) < (nf : Int) := by omega
          have hj0 : (0 : Int) ≤ (j : Int) := by omega
          obtain ⟨f, hf⟩ : ∃ f, x.fr[j]? = some f := ⟨_, List.getElem?_eq_getElem (by rw [← HNF.out]; exact hjn)⟩
          obtain ⟨b2, o2, u2, rfl, hb2, hu2, hc2⟩ := RFa.out.one hjn
          rw [List.getElem?_map, hf] at hu2
          simp at hu2
          subst hu2
          have hlk := HLK f
          obtain ⟨v, hv⟩ : ∃ v, v = getD E f := ⟨_, rfl⟩
          rw [← hv] at hlk
          have hv8 : v ≤ 8 := by rw [hv]; exact HSM.out f
          have hw : IntKind.i64.wrap ((v : Int) + 1) = (v : Int) + 1 := by rw [IntKind.wrap_i64]; omega
          have HD2 := Lib.hid (show max d (v + 1) = deepE E (x.fr.take (j + 1)) by
            rw [List.take_add_one, hf]
            show _ = deepE E (x.fr.take j ++ [f])
            rw [deepE_snoc, ← HD.out, hv])
          clear hf hv hb2 HLK
          go_wp2_with fail
          go_roundg (nf - (j + 1))
          case measure => omega
          case rel => exact ⟨rfl, j + 1, max d (v + 1), by omega, rfl, by go_num, congrArg _ (by omega), by omega, HD2⟩
        · obtain rfl : j = nf := by omega
          have HDD := Lib.hid (show d = deepE E x.fr by rw [HD.out, List.take_of_length_le (by rw [HNF.out]; exact Nat.le_refl _)])
          have hni : i1 ∉ E.map (·.1) := by
            rw [HE.out, depE_keys]
            simpa using ntake HND.out HI1.out
          obtain ⟨w5, hput, hm5, f5⟩ := HMP.out.put (v := d) hni
          have HJ5 := Lib.hid (show DepJ w.heap.size L l w w2 w5 (k + 1) from ⟨HJa.out.fr2, HJa.out.hr, HJa.out.fr.trans (f5.mono HJa.out.fr.size (by simp)), by
            rw [List.take_add_one, HI1.out]
            show DMap w5 w.heap.size (depE L (l.take k ++ [i1]) [])
            rw [depE_snoc, ← HE.out, ← HX.out, ← HDD.out]
            exact hm5⟩)
          clear hni hm5 f5 HLK
          go_wp2_with fail
          go_roundg (no - (k + 1))
          case measure => omega
          case rel => exact ⟨k + 1, by omega, rfl, by go_num, HJ5⟩
    · obtain rfl : k = no := by omega
      have HM2 := Lib.hid (show DMap wr w.heap.size (depE L l []) by
        have := HJ.out.map
        rw [List.take_of_length_le (by rw [HNO.out]; exact Nat.le_refl _)] at this
        exact this)
      have FE := Lib.hid HJ.out.frw
      go_wp2_with fail
      go_ret
      exact ⟨_, rfl, Nat.le_refl _, HM2.out, FE.out⟩
end Go.Proofs.Ytddngibfhklnfaa
namespace Go.Proofs.Ytddngibfhklnfaa
open Go.RowKit Go.Fb
/-- A list of numbers with the slice that holds it. -/
abbrev Lm := List Int × Value
def fstL (X : List Lm) : List (List Int) := X.map (·.1)
/-- A row of rows of its own. -/
structure Lsts (base : Nat) (w : World) (v : Value) (n : Nat) (X : List Lm) : Prop where
  num : n = X.length
  own : w.ownsRow base 28 1 v n (X.map (·.2))
  inn : ∀ m ∈ X, (∃ A c, m.2 = .slice A m.1.length c ∧ m.1.length ≤ c) ∧ w.ownsRow base 3 1 m.2 m.1.length (m.1.map (Value.int .i64))
theorem own_apart {w : World} {b e s n b' e' s' n' : Nat} {v v' : Value} {xs xs' : List Value} (h : w.ownsRow b e s v n xs) (h' : w.ownsRow b' e' s' v' n' xs') (hne : e ≠ e') : v.ownBlock = none ∨ v.ownBlock ≠ v'.ownBlock := by
  rcases h.2 with ⟨rfl, _⟩ | ⟨g, cap, cur, rfl, _, hgg, _⟩
  · exact .inl rfl
  · right
    rcases h'.2 with ⟨rfl, _⟩ | ⟨g', cap', cur', rfl, _, hgg', _⟩
    · intro hh; cases hh
    · intro hh
      have e2 : g = g' := by simpa [Value.ownBlock] using hh
      subst e2
      rw [hgg] at hgg'
      injection hgg' with h1
      injection h1 with _ h2
      exact hne h2
theorem Lsts.nil (base : Nat) (w : World) : Lsts base w (.slice none 0 0) 0 [] := ⟨rfl, World.ownsRow_nil _ _ _ _, fun _ h => by cases h⟩
theorem Lsts.mv {base n : Nat} {w w' : World} {v : Value} {X : List Lm} (h : Lsts base w v n X) (hf : Fr w.heap.size [] w w') : Lsts base w' v n X :=
  ⟨h.num, ownsRow_fr h.own hf (fun q hq => ⟨(h.own.lt q hq).2, by simp⟩), fun m hm => ⟨(h.inn m hm).1, ownsRow_fr (h.inn m hm).2 hf (fun q hq => ⟨((h.inn m hm).2.lt q hq).2, by simp⟩)⟩⟩
theorem Lsts.low {base base' n : Nat} {w : World} {v : Value} {X : List Lm} (h : Lsts base w v n X) (hb : base' ≤ base) : Lsts base' w v n X :=
  ⟨h.num, ownsRow_base h.own hb, fun m hm => ⟨(h.inn m hm).1, ownsRow_base (h.inn m hm).2 hb⟩⟩
theorem lstC_one {X : List Lm} (h : ∀ m ∈ X, ∃ A c, m.2 = .slice A m.1.length c ∧ m.1.length ≤ c) : ∀ u ∈ X.map (·.2), u.oneCell' = true := by
  intro u hu
  obtain ⟨m, hm, rfl⟩ := List.mem_map.1 hu
  obtain ⟨A, c, e, _⟩ := h m hm
  rw [e]; rfl
theorem own_new {w : World} {base e : Nat} {u : Value} (hb : base ≤ w.heap.size) : (w.alloc (.cells #[u] e)).ownsRow base e 1 (.slice (some ⟨w.heap.size, 0, none⟩) 1 1) 1 [u] :=
  ⟨rfl, .inr ⟨w.heap.size, 1, #[u], rfl, hb, Blk.new _ _ _, by simp [maxLen]⟩⟩
/-- One row of rows appended to another one. -/
theorem Lsts.app {base n n2 : Nat} {w w' : World} {v v2 v' : Value} {X Y : List Lm} (h : Lsts base w v n X) (h2 : Lsts base w v2 n2 Y)
    (ho : w'.ownsRow base 28 1 v' (n + n2) (X.map (·.2) ++ Y.map (·.2))) (hg : w.grownBy w' v.ownBlock) : Lsts base w' v' (n + n2) (X ++ Y) := by
  refine ⟨by rw [List.length_append, ← h.num, ← h2.num], by rw [List.map_append]; exact ho, fun m hm => ?_⟩
  have key : ∀ Z : List Lm, (∀ m ∈ Z, (∃ A c, m.2 = .slice A m.1.length c ∧ m.1.length ≤ c) ∧ w.ownsRow base 3 1 m.2 m.1.length (m.1.map (Value.int .i64))) → m ∈ Z → (∃ A c, m.2 = .slice A m.1.length c ∧ m.1.length ≤ c) ∧ w'.ownsRow base 3 1 m.2 m.1.length (m.1.map (Value.int .i64)) := fun Z hZ hm =>
    ⟨(hZ m hm).1, (hZ m hm).2.kept hg (own_apart (hZ m hm).2 h.own (by decide))⟩
  rcases List.mem_append.1 hm with hm | hm
  · exact key X h.inn hm
  · exact key Y h2.inn hm
theorem lstTy : SliceTy Try.prog 46 28 1 24 := SliceTy.mk' (z := .slice none 0 0) Try.underlying46 (by kernel_rfl) rfl (by omega)
theorem childN_le8 {L : List Nd} (h : L.length ≤ 8) (id : Int) : (childN L id).length ≤ 8 := by
  have h1 := kidsN_le L id []
  have h2 : (childN L id).length = (kidsN L id []).length := (srt_perm _).length_eq
  simp at h1
  omega
theorem flat_le {α β : Type} {f : α → List β} {m : Nat} : ∀ {l : List α}, (∀ x ∈ l, (f x).length ≤ m) → (l.flatMap f).length ≤ l.length * m
  | [], _ => by simp
  | x :: l, h => by
    rw [List.flatMap_cons, List.length_append, List.length_cons, Nat.succ_mul]
    have h1 := h x (by simp)
    have h2 := flat_le (l := l) fun y hy => h y (by simp [hy])
    omega
theorem ways_le {L : List Nd} (h : L.length ≤ 8) : ∀ (s : Nat) (id : Int), (waysT L s id).length ≤ 8 ^ s
  | 0, _ => by simp [waysT]
  | s + 1, id => by
    unfold waysT
    split
    · simp; exact Nat.one_le_pow _ _ (by omega)
    · have h1 := flat_le (l := childN L id) (f := fun c => (waysT L s c).map fun t => c :: t) (m := 8 ^ s) fun c _ => by simpa using ways_le h s c
      have h2 := childN_le8 h id
      have h3 := Nat.mul_le_mul_right (8 ^ s) h2
      rw [Nat.pow_succ]
      omega
/-- What a part of the children makes. -/
def partT (L : List Nd) (s : Nat) (way l : List Int) : List (List Int) := l.flatMap fun c => (waysT L s c).map fun t => way ++ c :: t
theorem partT_all {L : List Nd} {s : Nat} {id : Int} (way : List Int) (h : (getN L id).kind ≠ 2) : partT L s way (childN L id) = (waysT L (s + 1) id).map fun t => way ++ t := by
  unfold partT
  conv => rhs; unfold waysT
  rw [if_neg h, List.map_flatMap]
  congr 1
  funext c
  rw [List.map_map]
  rfl
theorem partT_len {L : List Nd} (h : L.length ≤ 8) {s : Nat} {way l : List Int} : (partT L s way l).length ≤ l.length * 8 ^ s :=
  flat_le fun c _ => by simpa using ways_le h s c
theorem partT_snoc {L : List Nd} {s : Nat} {way l : List Int} {c : Int} : partT L s way (l ++ [c]) = partT L s way l ++ (waysT L s c).map fun t => (way ++ [c]) ++ t := by
  unfold partT
  rw [List.flatMap_append]
  simp
def WaysOut (Y : List (List Int)) (w : World) (e : Ending) (w' : World) : Prop :=
  ∃ A c n X, e = .returned (.slice A n c) ∧ Lsts w.heap.size w' (.slice A n c) n X ∧ fstL X = Y ∧ n ≤ c ∧ Fr w.heap.size [] w w'
set_option maxRecDepth 100000 in
set_option maxHeartbeats 4000000 in
theorem ways_any (A : Option Addr) (c B n : Nat) (M : List Ndm) (hs : Small M) (hr : RightG (fstN M)) : ∀ (s : Nat) (w : World), Nds w B A n M → B ≤ w.heap.size → ∀ (way : List Int) (id : Int) (m : Nat) (Aw : Option Addr) (cw : Nat), way.length = m + 1 → m + s ≤ 20 → s ≤ 8 → way[m]? = some id → (∃ x ∈ fstN M, x.id = id) → (fstN M).length ≤ posI (sortN (fstN M)) id + s → Reads w w.heap.size 1 Aw (m + 1) (way.map (Value.int .i64)) →
    Calls Try.prog 62 #[.slice A n c, .slice Aw (m + 1) cw] w (WaysOut ((waysT (fstN M) s id).map fun t => way ++ t) w)
  | 0, w, h, hB, way, id, m, Aw, cw, hl, hm, _, hid, ⟨x, hx, e⟩, hp, hrw => by
    exfalso
    have := posI_get (complete_all hr.complete hx)
    have h2 := (List.getElem?_eq_some_iff.1 this).1
    rw [hr.complete, e] at h2
    omega
  | s + 1, w, h, hB, way, id, m, Aw, cw, hl, hm, hs8, hid, hin, hp, hrw => by
    obtain ⟨L, hL⟩ : ∃ L, L = fstN M := ⟨_, rfl⟩
    have HREC := Lib.hid (fun (wx : World) (hx : Fr w.heap.size [] w wx) => ways_any A c B n M hs hr s wx (h.frw hx hB (by simp)) (Nat.le_trans hB hx.size))
    have HFI := find_any id A c B n M w h hB hs
    rw [show M.map (·.1) = L from hL.symm] at HFI
    rw [← hL] at HREC hr hin hp ⊢
    have HL := Lib.hid hL
    have H := Lib.hid h
    have HS := Lib.hid hs
    have HRG := Lib.hid hr
    have HIN := Lib.hid hin
    have HP := Lib.hid hp
    have HRW := Lib.hid hrw
    have HLW := Lib.hid hl
    have HID := Lib.hid hid
    obtain ⟨b1, o1, u1, rfl, hb1, hu1, hc1⟩ := hrw.one (k := m) (by omega)
    rw [List.getElem?_map, hid] at hu1
    simp at hu1
    subst hu1
    have hm1 : (m : Int) < (m : Int) + 1 := by omega
    have hm0 : (0 : Int) ≤ (m : Int) := by omega
    have hw1 : IntKind.i64.wrap ((m : Int) + 1 - 1) = (m : Int) := by rw [IntKind.wrap_i64]; omega
    have HY := Lib.hid (rfl : (waysT L (s + 1) id).map (fun t => way ++ t) = (waysT L (s + 1) id).map (fun t => way ++ t))
    obtain ⟨Y, hY⟩ : ∃ Y, Y = (waysT L (s + 1) id).map (fun t => way ++ t) := ⟨_, rfl⟩
    rw [← hY]
    replace HY := Lib.hid hY
    replace HFI := Lib.hid HFI
    clear h hs hr hin hp hrw hl hid hL hY hb1
    go_enter Try.func62, Try.ntmps62
    go_wp2_with fail
    refine HFI.out.mono ?_
    rintro e w3 hfo
    obtain ⟨x, sf, sp, hx, rfl, hin, f3⟩ := hfo.get
    have HX := Lib.hid hx
    have hsm := getN_small HS.out id
    rw [← HL.out, ← hx] at hsm
    obtain ⟨⟨Af, cf, hf1, hf2⟩, ⟨Ap, cp, hp1, _⟩⟩ := hin
    simp only at hf1 hp1 hf2
    subst hf1
    subst hp1
    obtain ⟨nf, hnf⟩ : ∃ z, z = x.fr.length := ⟨_, rfl⟩
    obtain ⟨np, hnp⟩ : ∃ z, z = x.pg.length := ⟨_, rfl⟩
    rw [← hnf, ← hnp]
    have fa := (Fr.refl w3.heap.size [] w3).alloc (Nat.le_refl _) (.cells (ndA x (.slice Af nf cf) (.slice Ap np cp)) 38)
    have BX := Lib.hid (Blk.new w3 38 (ndA x (.slice Af nf cf) (.slice Ap np cp)))
    have FA := Lib.hid (f3.trans (fa.mono (B' := w.heap.size) (L' := []) f3.size (by simp)))
    obtain ⟨ob, hob⟩ : ∃ b, b = (findN L id).isSome := ⟨_, rfl⟩
    rw [← hob]
    clear hfo hx hsm f3 HFI hf2 hnf hnp hc1 fa hob
    go_upto_region 3 with fail
    generalize w3.alloc (.cells (ndA x (.slice Af nf cf) (.slice Ap np cp)) 38) = wa at *
    generalize w3.heap.size = gx at *
    have q1 := BX.out.cell 1
    simp at q1
    obtain ⟨kd, hkd⟩ : ∃ i, i = x.kind := ⟨_, rfl⟩
    rw [← hkd] at q1
    have HKD := Lib.hid hkd
    have RWA := Lib.hid (HRW.out.fr FA.out (Nat.le_refl _) (by simp))
    clear hkd
    by_cases k2 : kd = 2
    · subst k2
      have HYY := Lib.hid (show Y = [way] by
        rw [HY.out]
        unfold waysT
        rw [if_pos (by rw [← HX.out, ← HKD.out])]
        simp)
      have HCL := Lib.hid (iclone_any _ (m + 1) cw w.heap.size way wa (by rw [HLW.out]) (by omega) RWA.out FA.out.size)
      go_wp2_with fail
      refine HCL.out.mono ?_
      rintro e w5 ⟨A5, c5, rfl, o5, f5⟩
      have F5 := Lib.hid (FA.out.trans (f5.mono (B' := w.heap.size) (L' := []) FA.out.size (by simp)))
      obtain ⟨A6, c6, h6, _, h7, _⟩ := ownsRow_shape o5
      injection h6 with e1 _ e3
      subst e1
      subst e3
      have HLS := Lib.hid (show Lsts w.heap.size (w5.alloc (.cells #[.slice A5 (m + 1) c5] 28)) (.slice (some ⟨w5.heap.size, 0, none⟩) 1 1) 1 [(way, .slice A5 (m + 1) c5)] from ⟨rfl, own_new (F5.out.size), fun z hz => by
        have hz := List.mem_singleton.1 hz
        subst hz
        rw [HLW.out]
        exact ⟨⟨A5, c5, rfl, h7⟩, (ownsRow_base o5 FA.out.size).alloc _⟩⟩)
      clear o5 f5 h7 HCL
      go_wp2_with fail
      go_ret
      exact ⟨_, _, _, _, rfl, HLS.out, by rw [HYY.out]; rfl, Nat.le_refl _, F5.out.alloc F5.out.size _⟩
    · have hne : (kd == 2) = false := by simpa using k2
      have HYY := Lib.hid (show Y = partT L s way (childN L id) by
        rw [partT_all way (by rw [← HX.out, ← HKD.out]; exact k2)]
        exact HY.out)
      have HCH := children_any id A c B n M wa (H.out.frw FA.out hB (by simp)) (Nat.le_trans hB FA.out.size) HS.out
      rw [show M.map (·.1) = L from HL.out.symm] at HCH
      obtain ⟨l, hl⟩ : ∃ l, l = childN L id := ⟨_, rfl⟩
      rw [← hl] at HCH HYY
      have HLL := Lib.hid hl
      have hl8 : l.length ≤ 8 := by rw [hl]; exact childN_le8 HRG.out.len id
      replace HCH := Lib.hid HCH
      clear k2 hl
      go_wp2_with fail
      refine HCH.out.mono ?_
      rintro e w4 ⟨Ac, cc, nc, hnc, rfl, oc, f4⟩
      have hnc8 : nc ≤ 8 := by omega
      have HNC := Lib.hid hnc
      have RC := Lib.hid (Reads.of_own oc)
      have F4 := Lib.hid (FA.out.trans (f4.mono (B' := w.heap.size) (L' := []) FA.out.size (by simp)))
      clear hnc oc f4 HCH hl8 q1
      go_wp2_with fail
      go_loopg [8, 33] nc (fun g s8 s33 wr => ∃ (k : Nat) (A' : Option Addr) (c' q : Nat) (X : List Lm), k ≤ nc ∧ g = nc - k ∧ s33 = .int .i64 k ∧ s8 = .slice A' q c' ∧ q ≤ c' ∧ RowKit.Hid (Lsts w4.heap.size wr (.slice A' q c') q X) ∧ RowKit.Hid (fstL X = partT L s way (l.take k)) ∧ RowKit.Hid (Fr w4.heap.size [] w4 wr))
      case atStart => exact ⟨0, none, 0, 0, [], Nat.zero_le _, rfl, rfl, rfl, Nat.le_refl _, Lib.hid (Lsts.nil _ _), Lib.hid rfl, Lib.hid (Fr.refl _ _ _)⟩
      case round =>
        obtain ⟨k, A', c', q, X, hk, rfl, rfl, rfl, hqc, HLS, HPX, FR⟩ := hrel
        by_cases hkn : k < nc
        · have hki : (k : Int) < (nc : Int) := by omega
          have hk0 : (0 : Int) ≤ (k : Int) := by omega
          obtain ⟨ch, hch⟩ : ∃ i1, l[k]? = some i1 := ⟨_, List.getElem?_eq_getElem (by rw [← HNC.out]; exact hkn)⟩
          have HC := Lib.hid hch
          obtain ⟨b2, o2, u2, rfl, hb2, hu2, hc2⟩ := (RC.out.fr FR.out (Nat.le_refl _) (by simp)).one hkn
          rw [List.getElem?_map, hch] at hu2
          simp at hu2
          subst hu2
          have FW := Lib.hid (F4.out.trans (FR.out.mono (B' := w.heap.size) (L' := []) F4.out.size (by simp)))
          have HCL := Lib.hid (iclone_any _ (m + 1) cw w.heap.size way wr (by rw [HLW.out]) (by omega) (HRW.out.fr FW.out (Nat.le_refl _) (by simp)) FW.out.size)
          clear hch hb2
          go_wp2_with fail
          refine HCL.out.mono ?_
          rintro e w5 ⟨A5, c5, rfl, o5, f5⟩
          have F5 := Lib.hid (FW.out.trans (f5.mono (B' := w.heap.size) (L' := []) FW.out.size (by simp)))
          have HLS5 := Lib.hid (HLS.out.mv f5)
          have hsz := f5.size
          go_wp2_with (at_builtin; refine wpList_app_lit _ rfl (.tmp 40) (.tmp 42) intsTy rfl wr.heap.size (.slice A5 (m + 1) c5) (m + 1) _ rfl o5 1 1 _ rfl rfl (by simp [Value.oneCell']) (by omega) (by omega) hsz ?_; intro A6 c6 w6 o6 hg6 hat6)
          have f6 := f5.trans (Fr.of_app hg6 o5 hsz)
          have F6 := Lib.hid (FW.out.trans (f6.mono (B' := w.heap.size) (L' := []) FW.out.size (by simp)))
          have HLS6 := Lib.hid (HLS.out.mv f6)
          have FR6 := Lib.hid (FR.out.trans (f6.mono (B' := w4.heap.size) (L' := []) FR.out.size (by simp)))
          have hcm : ch ∈ childN L id := by rw [← HLL.out]; exact List.mem_of_getElem? HC.out
          have HCR := Lib.hid (HREC.out w6 F6.out (way ++ [ch]) ch (m + 1) A6 c6 (by rw [List.length_append, HLW.out]; rfl) (by omega) (by omega) (by rw [List.getElem?_append_right (by rw [HLW.out]; omega), HLW.out]; simp) (by
            obtain ⟨z, hz, e, _⟩ := childN_mem.1 hcm
            exact ⟨z, hz, e⟩) (by
            obtain ⟨z, hz, e, hf⟩ := childN_mem.1 hcm
            have h1 := complete_rank HRG.out.uni HRG.out.complete z hz id hf
            have h2 := HP.out
            rw [e] at h1
            omega) (by rw [List.map_append]; exact Reads.of_own o6))
          clear o5 o6 hg6 hat6 f5 f6 hsz HCL HLS5 F5 HLS FR hcm
          refine HCR.out.mono ?_
          rintro e w7 ⟨A7, c7, n7, X7, rfl, hls7, hx7, hn7, f7⟩
          have hq1 : q ≤ 16777216 := by
            have h1 := HLS6.out.num
            have h2 := congrArg List.length HPX.out
            have h3 := partT_len HRG.out.len (s := s) (way := way) (l := l.take k)
            have h4 : 8 ^ s ≤ 8 ^ 7 := Nat.pow_le_pow_right (by omega) (by omega)
            have h5 := Nat.mul_le_mul (show (l.take k).length ≤ 8 by rw [List.length_take]; omega) h4
            simp only [fstL, List.length_map] at h2
            omega
          have hq2 : n7 ≤ 16777216 := by
            have h1 := hls7.num
            have h2 := congrArg List.length hx7
            have h3 := ways_le HRG.out.len s ch
            have h4 : 8 ^ s ≤ 8 ^ 7 := Nat.pow_le_pow_right (by omega) (by omega)
            simp only [fstL, List.length_map] at h2
            omega
          have HLS7 := Lib.hid (HLS6.out.mv f7)
          have H27 := Lib.hid (hls7.low FR6.out.size)
          have R7 := Reads.of_own hls7.own
          have h17 := lstC_one (fun z hz => (hls7.inn z hz).1)
          have F7 := Lib.hid (F6.out.trans (f7.mono (B' := w.heap.size) (L' := []) F6.out.size (by simp)))
          have FR7 := Lib.hid (FR6.out.trans (f7.mono (B' := w4.heap.size) (L' := []) FR6.out.size (by simp)))
          have HX7 := Lib.hid hx7
          have hown := HLS7.out.own
          have hsz := FR7.out.size
          clear hls7 hx7 f7 HCR HLS6 F6 FR6
          go_wp2_with (at_builtin; refine wpList_app _ rfl (.tmp 37) (.tmp 44) lstTy rfl w4.heap.size (.slice A' q c') q _ rfl hown w7.heap.size A7 n7 c7 _ rfl R7 h17 (by omega) (by omega) hsz ?_; intro A8 c8 w8 o8 hg8 hat8)
          obtain ⟨A9, c9, h9, _, h10, _⟩ := ownsRow_shape o8
          injection h9 with e1 _ e3
          subst e1
          subst e3
          have HLS8 := Lib.hid (HLS7.out.app H27.out o8 hg8)
          have FR8 := Lib.hid (FR7.out.trans ((Fr.refl w4.heap.size [] w7).grown hg8 FR7.out.size (fun b hb => .inl (hown.lt b hb).1)))
          have HPX8 := Lib.hid (show fstL (X ++ X7) = partT L s way (l.take (k + 1)) by
            rw [List.take_add_one, HC.out]
            show _ = partT L s way (l.take k ++ [ch])
            rw [partT_snoc, ← HPX.out, ← HX7.out]
            simp [fstL])
          clear o8 hg8 hat8 hown R7 h17 hsz
          go_roundg (nc - (k + 1))
          case measure => omega
          case rel => exact ⟨k + 1, A8, c8, q + n7, X ++ X7, by omega, rfl, by go_num, rfl, h10, HLS8, HPX8, FR8⟩
        · obtain rfl : k = nc := by omega
          have HPY := Lib.hid (show fstL X = Y by rw [HPX.out, HYY.out, List.take_of_length_le (by rw [HNC.out]; exact Nat.le_refl _)])
          have FE := Lib.hid (F4.out.trans (FR.out.mono (B' := w.heap.size) (L' := []) F4.out.size (by simp)))
          go_wp2_with fail
          go_ret
          exact ⟨_, _, _, _, rfl, HLS.out.low F4.out.size, HPY.out, hqc, FE.out⟩
set_option maxRecDepth 100000 in
theorem paths_any (A : Option Addr) (c B n : Nat) (M : List Ndm) (w : World) (h : Nds w B A n M) (hB : B ≤ w.heap.size) (hs : Small M) :
    Calls Try.prog 30 #[.slice A n c] w (WaysOut (if checkN (fstN M) = 0 then (waysT (fstN M) 8 0).map fun t => 0 :: t else []) w) := by
  obtain ⟨L, hL⟩ : ∃ L, L = fstN M := ⟨_, rfl⟩
  obtain ⟨cv, hcv⟩ : ∃ v, v = checkN L := ⟨_, rfl⟩
  have HC := gcheck_any A c B n M w h hB hs
  rw [← hL, ← hcv] at HC
  rw [← hL, ← hcv]
  obtain ⟨Y, hY⟩ : ∃ Y, Y = (if cv = 0 then (waysT L 8 0).map fun t => 0 :: t else []) := ⟨_, rfl⟩
  rw [← hY]
  have HY := Lib.hid hY
  replace HC := Lib.hid HC
  have H := Lib.hid h
  have HCV := Lib.hid hcv
  have HWA := Lib.hid (fun (hr : RightG L) (wx : World) (hx : Fr w.heap.size [] w wx) => (by
    obtain ⟨z, hz, e⟩ := List.mem_map.1 hr.zero
    have := ways_any A c B n M hs (by rw [← hL]; exact hr) 8 (wx.alloc (.cells #[.int .i64 0] 3)) ((h.frw hx hB (by simp)).frw ((Fr.refl B [] wx).alloc (Nat.le_trans hB hx.size) _) (Nat.le_refl _) (by simp)) (by have := hx.size; simp; omega) [0] 0 0 (some ⟨wx.heap.size, 0, none⟩) 1 rfl (by omega) (by omega) rfl (by rw [← hL]; exact ⟨z, hz, e⟩) (by rw [← hL]; have := hr.len; omega) (Reads.of_own (own_new (Nat.le_refl wx.heap.size)))
    rw [← hL] at this
    exact this : Calls Try.prog 62 #[.slice A n c, .slice (some ⟨wx.heap.size, 0, none⟩) 1 1] (wx.alloc (.cells #[.int .i64 0] 3)) (WaysOut ((waysT L 8 0).map fun t => [0] ++ t) (wx.alloc (.cells #[.int .i64 0] 3)))))
  clear h hs hL hcv hY
  go_enter Try.func30, Try.ntmps30
  go_wp2_with fail
  refine HC.out.mono ?_
  rintro e w1 ⟨rfl, f1⟩
  have F1 := Lib.hid f1
  clear f1 HC
  by_cases c0 : cv = 0
  case neg =>
    have c1 : (cv != 0) = true := by simpa using c0
    have HYY := Lib.hid (show Y = [] by rw [HY.out, if_neg c0])
    clear c0
    go_wp2_with fail
    go_ret
    exact ⟨none, 0, 0, [], rfl, Lsts.nil _ _, HYY.out.symm, Nat.le_refl _, F1.out⟩
  subst c0
  have HYY := Lib.hid (show Y = (waysT L 8 0).map fun t => 0 :: t by rw [HY.out, if_pos rfl])
  have HW := Lib.hid (HWA.out (checkN_zero.1 HCV.out.symm) w1 F1.out)
  clear HWA
  go_wp2_with fail
  refine HW.out.mono ?_
  rintro e w2 ⟨A2, c2, n2, X2, rfl, hls, hx, hn, f2⟩
  have F2 := Lib.hid (F1.out.trans (((Fr.refl w1.heap.size [] w1).alloc (Nat.le_refl _) (.cells #[.int .i64 0] 3)).trans (f2.mono (B' := w1.heap.size) (L' := []) (by simp) (by simp)) |>.mono (B' := w.heap.size) (L' := []) F1.out.size (by simp)))
  have HLS := Lib.hid (hls.low (base' := w.heap.size) (by have := F1.out.size; simp; omega))
  have HXX := Lib.hid hx
  clear hls hx f2
  go_wp2_with fail
  go_ret
  exact ⟨_, _, _, _, rfl, HLS.out, by rw [HYY.out]; exact HXX.out, hn, F2.out⟩
end Go.Proofs.Ytddngibfhklnfaa
namespace Go.Proofs.Ytddngibfhklnfaa
open Go.RowKit Go.Fb
theorem ways_chain {L : List Nd} : ∀ {s : Nat} {id : Int} {t : List Int}, t ∈ waysT L s id → t.length ≤ s ∧ (∀ (k : Nat) (x y : Int), (id :: t)[k]? = some x → t[k]? = some y → y ∈ childN L x) ∧ (∀ z, (id :: t)[t.length]? = some z → (getN L z).kind = 2) ∧ ((getN L id).kind ≠ 2 → 0 < t.length)
  | 0, _, _, h => by cases h
  | s + 1, id, t, h => by
    unfold waysT at h
    split at h
    · rename_i hk
      have := List.mem_singleton.1 h
      subst this
      exact ⟨by simp, (fun k x y _ h => by simp at h), (fun z hz => by simp at hz; rw [← hz]; exact hk), fun h => absurd hk h⟩
    · obtain ⟨c, hc, h⟩ := List.mem_flatMap.1 h
      obtain ⟨u, hu, rfl⟩ := List.mem_map.1 h
      obtain ⟨h1, h2, h3, _⟩ := ways_chain hu
      refine ⟨by simp; omega, fun k x y hx hy => ?_, fun z hz => ?_, fun _ => by simp⟩
      · cases k with
        | zero =>
          simp at hx hy
          subst hx
          subst hy
          exact hc
        | succ k => exact h2 k x y (by simpa using hx) (by simpa using hy)
      · exact h3 z (by simpa using hz)
/-- What the law asks of a way. -/
structure WayOk (L : List Nd) (l : List Int) : Prop where
  two : 2 ≤ l.length
  len : l.length ≤ 20
  zero : l[0]? = some 0
  chain : ∀ (k : Nat) (x y : Int), l[k]? = some x → l[k + 1]? = some y → y ∈ childN L x
  last : ∀ z, l[l.length - 1]? = some z → (getN L z).kind = 2
theorem way_ok {L : List Nd} (hr : RightG L) {l : List Int} (h : l ∈ (waysT L 8 0).map fun t => 0 :: t) : WayOk L l := by
  obtain ⟨t, ht, rfl⟩ := List.mem_map.1 h
  obtain ⟨h1, h2, h3, h4⟩ := ways_chain ht
  have h5 := h4 (by rw [zero_kind hr]; omega)
  exact ⟨by simp; omega, by simp; omega, rfl, fun k x y hx hy => h2 k x y hx (by simpa using hy), fun z hz => h3 z (by simpa using hz)⟩
theorem ways_apart {L : List Nd} : ((waysT L 8 0).map fun t => (0 : Int) :: t).Nodup := by
  rw [List.nodup_iff_pairwise_ne, List.pairwise_map]
  exact (List.nodup_iff_pairwise_ne.1 (ways_nodup (L := L) 8 0)).imp fun hne e => hne (by injection e)
theorem manyN_take {L : List Nd} {k : Nat} {x : Nd} (h : L[k]? = some x) : manyN (L.take (k + 1)) = if x.kind = 2 then manyN (L.take k) + x.fr.length else manyN (L.take k) := by
  rw [List.take_add_one, h]
  exact manyN_snoc _ _
theorem dmap_len {w : World} {r n : Nat} {E : List (Int × Nat)} (h : DMap w r E) (hn : E.length = n) : (Builtin.len_ #[44] 3 #[.map (some r)]).run Try.prog w = .ok (.int .i64 n) w := by
  obtain ⟨es, clock, hb, hs⟩ := h.block
  rw [← hn, ← hs]
  exact run_len_map (P := Try.prog) _ _ _ _ _ _ (by kernel_rfl) hb
theorem child_has {L : List Nd} {x y : Int} (hy : y ∈ childN L x) (A : Option Addr) (c n : Nat) (w : World) (hn : n = (childN L x).length) (h8 : (childN L x).length ≤ 8) (hr : Reads w w.heap.size 1 A n ((childN L x).map (Value.int .i64))) :
    Calls Try.prog 31 #[.slice A n c, .int .i64 y] w fun e w' => e = .returned (.bool true) ∧ w = w' := by
  have := rhas_any y A c w.heap.size n (childN L x) w hn (by omega) hr
  rw [hasI_iff.2 hy] at this
  exact this
set_option maxRecDepth 100000 in
set_option maxHeartbeats 8000000 in
theorem walk_GraphDepths (A : Option Addr) (n c : Nat) (M : List Ndm) (hc : n ≤ c) (hm : c ≤ maxLen) (w : World) (h : Nds w w.heap.size A n M) :
    Calls Try.prog 5 #[.slice A n c] w fun e w' => e = .returned (.bool true) ∧ Below w.heap.size w w' := by
  obtain ⟨L, hL⟩ : ∃ L, L = fstN M := ⟨_, rfl⟩
  have HL := Lib.hid hL
  have H := Lib.hid h
  have HG0 := great08_any A c w.heap.size n M
  obtain ⟨gb, hgb⟩ : ∃ b, b = greatN L := ⟨_, rfl⟩
  have HG := Lib.hid (fun (wx : World) (hx : Fr w.heap.size [] w wx) => (by
    have := HG0 wx (h.frw hx (Nat.le_refl _) (by simp)) hx.size (by omega)
    rw [← hL, ← hgb] at this
    exact this : Calls Try.prog 13 #[.slice A n c] wx fun e w' => e = .returned (.bool gb) ∧ Fr wx.heap.size [] wx w'))
  have HGB := Lib.hid hgb
  have HA := Lib.hid (awake08_any w)
  clear h hL hgb HG0
  go_enter Try.func5, Try.ntmps5
  go_wp2_with fail
  refine HA.out.mono ?_
  rintro e w1 ⟨rfl, f1⟩
  have F1 := Lib.hid f1
  clear f1 HA
  go_wp2_with fail
  refine (HG.out w1 F1.out).mono ?_
  rintro e w2 ⟨rfl, f2⟩
  have F2 := Lib.hid (F1.out.trans (f2.mono (B' := w.heap.size) (L' := []) F1.out.size (by simp)))
  clear f2 HG F1
  cases gb with
  | true =>
    go_wp2_with fail
    go_ret
    exact ⟨rfl, F2.out.below⟩
  | false =>
  obtain ⟨hl20, hs, hs3⟩ := small_great (by rw [← HL.out]; exact HGB.out.symm : greatN (fstN M) = false)
  have HS := Lib.hid hs
  have HS3 := Lib.hid hs3
  have hn20 : n ≤ 20 := by rw [H.out.num]; exact hl20
  have HLN := Lib.hid (show L.length = n by rw [HL.out, H.out.num]; simp [fstN])
  clear hs hl20 HGB hs3
  obtain ⟨cv, hcv⟩ : ∃ v, v = checkN L := ⟨_, rfl⟩
  have HCV := Lib.hid hcv
  have HN := Lib.hid (fun (wx : World) (hx : Fr w.heap.size [] w wx) => H.out.frw hx (Nat.le_refl _) (by simp))
  have HD := Lib.hid (by
    have := depths_any A c w.heap.size n M w2 (HN.out w2 F2.out) F2.out.size HS.out
    rw [← HL.out] at this
    exact this : Calls Try.prog 29 #[.slice A n c] w2 fun e w' => ∃ r, e = .returned (.map (some r)) ∧ w2.heap.size ≤ r ∧ DMap w' r (depE L (orderN L) []) ∧ Fr w2.heap.size [] w2 w')
  clear hcv
  go_wp2_with fail
  refine HD.out.mono ?_
  rintro e w3 ⟨r, rfl, hrr, hdm, f3⟩
  have F3 := Lib.hid (F2.out.trans (f3.mono (B' := w.heap.size) (L' := []) F2.out.size (by simp)))
  have HDM := Lib.hid hdm
  have HP := Lib.hid (by
    have := paths_any A c w.heap.size n M w3 (HN.out w3 F3.out) F3.out.size HS.out
    rw [← HL.out, ← HCV.out] at this
    exact this : Calls Try.prog 30 #[.slice A n c] w3 (WaysOut (if cv = 0 then (waysT L 8 0).map fun t => 0 :: t else []) w3))
  clear hdm f3 HD
  go_wp2_with fail
  refine HP.out.mono ?_
  rintro e w4 ⟨Ap, cp, np, X, rfl, hls, hx, hnp, f4⟩
  have F4 := Lib.hid (F3.out.trans (f4.mono (B' := w.heap.size) (L' := []) F3.out.size (by simp)))
  have HDM4 := Lib.hid (HDM.out.fr f4 HDM.out.lt (by simp))
  have HLS := Lib.hid hls
  have HX := Lib.hid hx
  have HC := Lib.hid (by
    have := gcheck_any A c w.heap.size n M w4 (HN.out w4 F4.out) F4.out.size HS.out
    rw [← HL.out, ← HCV.out] at this
    exact this : Calls Try.prog 15 #[.slice A n c] w4 fun e w' => e = .returned (.int .i64 cv) ∧ Fr w4.heap.size [] w4 w')
  clear hls hx f4 HP HDM
  go_wp2_with fail
  refine HC.out.mono ?_
  rintro e w5 ⟨rfl, f5⟩
  have F5 := Lib.hid (F4.out.trans (f5.mono (B' := w.heap.size) (L' := []) F4.out.size (by simp)))
  have HD5 := Lib.hid (HDM4.out.fr f5 HDM4.out.lt (by simp))
  have HLS5 := Lib.hid (HLS.out.mv f5)
  clear f5 HC HDM4 HLS
  by_cases c0 : cv = 0
  case neg =>
    have c1 : (cv != 0) = true := by simpa using c0
    have hlen := dmap_len (n := 0) HD5.out (by rw [orderN_bad (by rw [← HCV.out]; exact c0)]; rfl)
    have h0 := HLS5.out.num
    have hx := HX.out
    rw [if_neg c0] at hx
    have hX : X = [] := by
      cases X with
      | nil => rfl
      | cons a b => simp [fstL] at hx
    subst hX
    obtain rfl : np = 0 := h0
    clear c0 hx
    go_wp2_with fail
    go_ret
    exact ⟨rfl, F5.out.below⟩
  subst c0
  have hr := checkN_zero.1 HCV.out.symm
  have HRG := Lib.hid hr
  have HXX := Lib.hid (show fstL X = (waysT L 8 0).map fun t => 0 :: t by have := HX.out; rw [if_pos rfl] at this; exact this)
  obtain ⟨E, hE⟩ : ∃ E, E = depE L (sortN L) [] := ⟨_, rfl⟩
  have HE := Lib.hid hE
  have hd5 := HD5.out
  rw [orderN_right hr, ← hE] at hd5
  have HDE := Lib.hid hd5
  have HEL := Lib.hid (show E.length = n by rw [hE, depE_len, hr.complete, HLN.out])
  have HSM := Lib.hid (show ∀ y, getD E y ≤ 8 from fun y => by
    have h1 := depE_small L (sortN L) [] (fun _ => Nat.le_refl _) y
    rw [depE_len, ← hE, hr.complete] at h1
    have := hr.len
    omega)
  have HSAY := Lib.hid (fun (x : Nd) (hx : x ∈ L) => (by rw [hE]; exact deep_says hr hx : x.id ∈ E.map (·.1) ∧ getD E x.id = deepE E x.fr))
  have HMANY := Lib.hid (show X.length = manyN L by
    have := congrArg List.length HXX.out
    rw [List.length_map, ways_many hr] at this
    simpa [fstL] using this)
  clear hr hE hd5 HD5 HX
  go_wp2_with fail
  go_loopg [5, 39] n (fun g s5 s39 wr => ∃ k mk : Nat, k ≤ n ∧ g = n - k ∧ s39 = .int .i64 k ∧ s5 = .int .i64 mk ∧ mk ≤ 20 * k ∧ RowKit.Hid (mk = manyN (L.take k)) ∧ RowKit.Hid (Fr w5.heap.size [] w5 wr))
  case atStart => exact ⟨0, 0, Nat.zero_le _, rfl, rfl, rfl, by omega, Lib.hid rfl, Lib.hid (Fr.refl _ _ _)⟩
  case round =>
    obtain ⟨k, mk, hk, rfl, rfl, rfl, hmk, HMK, FR⟩ := hrel
    have FW := Lib.hid (F5.out.trans (FR.out.mono (B' := w.heap.size) (L' := []) F5.out.size (by simp)))
    by_cases hkn : k < n
    · have hki : (k : Int) < (n : Int) := by omega
      have hk0 : (0 : Int) ≤ (k : Int) := by omega
      obtain ⟨m, hx⟩ : ∃ m, M[k]? = some m := ⟨_, List.getElem?_eq_getElem (by rw [← H.out.num]; exact hkn)⟩
      have HND := HN.out wr FW.out
      obtain ⟨b1, o1, rfl, hb1, hc1⟩ := HND.get hx
      have hin := HND.inn m (List.mem_of_getElem? hx)
      have hs3 := (HS3.out m (List.mem_of_getElem? hx)).1
      have HKX := Lib.hid (show L[k]? = some m.1 by rw [HL.out]; simp [fstN, hx])
      obtain ⟨x, sf, sp⟩ := m
      simp only at hs3 HKX
      have fa := (Fr.refl wr.heap.size [] wr).alloc (Nat.le_refl _) (.cells (ndA x sf sp) 38)
      have BX := Lib.hid (Blk.new wr 38 (ndA x sf sp))
      have FRa := Lib.hid (FR.out.trans (fa.mono (B' := w5.heap.size) (L' := []) FR.out.size (by simp)))
      obtain ⟨⟨Af, cf, hf1, hf2⟩, ⟨Apg, cpg, hp1, _⟩⟩ := hin
      simp only at hf1 hp1 hf2
      subst hf1
      subst hp1
      have RFa := Lib.hid ((hf2.more FW.out.size).fr fa (Nat.le_refl _) (by simp))
      obtain ⟨g0, g1, g2, g3, g4, g5, g6, g7, g8, g9, g10, g11, g12⟩ := ndL_get (x, .slice Af x.fr.length cf, .slice Apg x.pg.length cpg)
      have p0 := hc1 0 _ g0
      have p1 := hc1 1 _ g1
      have p2 := hc1 2 _ g2
      have p3 := hc1 3 _ g3
      have p4 := hc1 4 _ g4
      have p5 := hc1 5 _ g5
      have p6 := hc1 6 _ g6
      have p7 := hc1 7 _ g7
      have p8 := hc1 8 _ g8
      have p9 := hc1 9 _ g9
      have p10 := hc1 10 _ g10
      have p11 := hc1 11 _ g11
      have p12 := hc1 12 _ g12
      simp only [Nat.add_zero] at p0
      clear hc1 g0 g1 g2 g3 g4 g5 g6 g7 g8 g9 g10 g11 g12 hb1 hx hf2 HND fa
      go_upto_region 12 with fail
      generalize wr.alloc (.cells (ndA x (.slice Af x.fr.length cf) (.slice Apg x.pg.length cpg)) 38) = wa at *
      generalize wr.heap.size = gx at *
      have q0 := BX.out.cell 0
      have q1 := BX.out.cell 1
      have q2 := BX.out.cell 2
      simp at q0 q1 q2
      obtain ⟨nf, hnf⟩ : ∃ z, z = x.fr.length := ⟨_, rfl⟩
      obtain ⟨kd, hkd⟩ : ∃ i, i = x.kind := ⟨_, rfl⟩
      obtain ⟨id, hid⟩ : ∃ i, i = x.id := ⟨_, rfl⟩
      rw [← hnf] at q2 hs3
      rw [← hkd] at q1
      rw [← hid] at q0
      have RF := RFa.out
      rw [← hnf] at RF
      have RFF := Lib.hid RF
      have HNF := Lib.hid hnf
      have HKD := Lib.hid hkd
      obtain ⟨sy1, sy2⟩ := HSAY.out x (List.mem_of_getElem? HKX.out)
      have HDa := Lib.hid (HDE.out.fr FRa.out HDE.out.lt (by simp))
      have hhas := HDa.out.has id
      rw [hid, decide_eq_true sy1, sy2, ← hid] at hhas
      obtain ⟨dd, hdd⟩ : ∃ z, z = deepE E x.fr := ⟨_, rfl⟩
      rw [← hdd] at hhas
      have HDD := Lib.hid hdd
      have hne : ((dd : Int) != (dd : Int)) = false := by simp
      have HLK := Lib.hid (fun y => HDa.out.get y)
      clear hnf hkd hid sy1 sy2 hdd RF RFa p0 p1 p2 p3 p4 p5 p6 p7 p8 p9 p10 p11 p12
      go_wp2_with fail
      go_loopg [8, 46] nf (fun g s8 s46 wr => wr = wa ∧ ∃ j d : Nat, j ≤ nf ∧ g = nf - j ∧ s46 = .int .i64 j ∧ s8 = .int .i64 d ∧ d ≤ 9 ∧ RowKit.Hid (d = deepE E (x.fr.take j)))
      case atStart => exact ⟨rfl, 0, 0, Nat.zero_le _, rfl, rfl, rfl, by omega, Lib.hid rfl⟩
      case round =>
        obtain ⟨rfl, j, d, hj, rfl, rfl, rfl, hd9, HJD⟩ := hrel
        by_cases hjn : j < nf
        · have hji : (j : Int) < (nf : Int) := by omega
          have hj0 : (0 : Int) ≤ (j : Int) := by omega
          obtain ⟨f, hf⟩ : ∃ f, x.fr[j]? = some f := ⟨_, List.getElem?_eq_getElem (by rw [← HNF.out]; exact hjn)⟩
          obtain ⟨b2, o2, u2, rfl, hb2, hu2, hc2⟩ := RFF.out.one hjn
          rw [List.getElem?_map, hf] at hu2
          simp at hu2
          subst hu2
          have hlk := HLK.out f
          obtain ⟨v, hv⟩ : ∃ v, v = getD E f := ⟨_, rfl⟩
          rw [← hv] at hlk
          have hv8 : v ≤ 8 := by rw [hv]; exact HSM.out f
          have hw : IntKind.i64.wrap ((v : Int) + 1) = (v : Int) + 1 := by rw [IntKind.wrap_i64]; omega
          have HD2 := Lib.hid (show max d (v + 1) = deepE E (x.fr.take (j + 1)) by
            rw [List.take_add_one, hf]
            show _ = deepE E (x.fr.take j ++ [f])
            rw [deepE_snoc, ← HJD.out, hv])
          clear hf hv hb2 hhas hne
          go_wp2_with fail
          go_roundg (nf - (j + 1))
          case measure => omega
          case rel => exact ⟨rfl, j + 1, max d (v + 1), by omega, rfl, by go_num, congrArg _ (by omega), by omega, HD2⟩
        · obtain rfl : j = nf := by omega
          have hde : d = dd := by rw [HJD.out, HDD.out, List.take_of_length_le (by rw [HNF.out]; exact Nat.le_refl _)]
          subst hde
          have HMT := Lib.hid (manyN_take HKX.out)
          by_cases k2 : kd = 2
          · subst k2
            have HM2 := Lib.hid (show mk + j = manyN (L.take (k + 1)) by rw [HMT.out, if_pos HKD.out.symm, ← HMK.out, HNF.out])
            have hw : IntKind.i64.wrap ((mk : Int) + (j : Int)) = (mk : Int) + (j : Int) := by rw [IntKind.wrap_i64]; omega
            go_wp2_with fail
            go_roundg (n - (k + 1))
            case measure => omega
            case rel => exact ⟨k + 1, mk + j, by omega, rfl, by go_num, by go_num, by omega, HM2, FRa⟩
          · have k3 : (kd == 2) = false := by simpa using k2
            have HM2 := Lib.hid (show mk = manyN (L.take (k + 1)) by rw [HMT.out, if_neg (by rw [← HKD.out]; exact k2), ← HMK.out])
            clear k2
            go_wp2_with fail
            go_roundg (n - (k + 1))
            case measure => omega
            case rel => exact ⟨k + 1, mk, by omega, rfl, by go_num, rfl, by omega, HM2, FRa⟩
    · obtain rfl : k = n := by omega
      have HMM := Lib.hid (show mk = np by rw [HMK.out, HLS5.out.num, HMANY.out, List.take_of_length_le (by rw [HLN.out]; exact Nat.le_refl _)])
      have hnp400 : np ≤ 400 := by have := HMM.out; omega
      have HLSR := Lib.hid (HLS5.out.mv FR.out)
      have HDR := Lib.hid (HDE.out.fr FR.out HDE.out.lt (by simp))
      go_wp2_with fail
      obtain ⟨wp, rfl⟩ : ∃ wp : World, wp = wr := ⟨_, rfl⟩
      go_loopg [82] np (fun g s82 wr => ∃ i : Nat, i ≤ np ∧ g = np - i ∧ s82 = .int .i64 i ∧ RowKit.Hid (Fr wp.heap.size [] wp wr))
      case atStart => exact ⟨0, Nat.zero_le _, rfl, rfl, Lib.hid (Fr.refl _ _ _)⟩
      case round =>
        obtain ⟨i, hi, rfl, rfl, FI⟩ := hrel
        have FWI := Lib.hid (FW.out.trans (FI.out.mono (B' := w.heap.size) (L' := []) FW.out.size (by simp)))
        have HLI := Lib.hid (HLSR.out.mv FI.out)
        by_cases hin : i < np
        · have hki : (i : Int) < (np : Int) := by omega
          have hk0 : (0 : Int) ≤ (i : Int) := by omega
          have hic : (i : Int) ≤ (cp : Int) := by omega
          obtain ⟨m, hmx⟩ : ∃ m, X[i]? = some m := ⟨_, List.getElem?_eq_getElem (by rw [← HLI.out.num]; exact hin)⟩
          obtain ⟨⟨Aw, cw, hsv, _⟩, how⟩ := HLI.out.inn m (List.mem_of_getElem? hmx)
          obtain ⟨wl, sv⟩ := m
          simp only at hsv how
          subst hsv
          have HMX := Lib.hid hmx
          have HOK := Lib.hid (way_ok HRG.out (l := wl) (by rw [← HXX.out]; exact List.mem_map.2 ⟨_, List.mem_of_getElem? hmx, rfl⟩))
          obtain ⟨b3, o3, u3, rfl, hb3, hu3, hc3⟩ := (Reads.of_own HLI.out.own).one hin
          rw [List.getElem?_map, hmx] at hu3
          simp at hu3
          subst hu3
          obtain ⟨nw, hnw⟩ : ∃ z, z = wl.length := ⟨_, rfl⟩
          rw [← hnw] at how hc3
          have HNW := Lib.hid hnw
          have RW := Lib.hid (Reads.of_own how)
          have hw2 : 2 ≤ nw := by rw [hnw]; exact HOK.out.two
          have hw20 : nw ≤ 20 := by rw [hnw]; exact HOK.out.len
          obtain ⟨b4, o4, u4, rfl, hb4, hu4, hc4⟩ := RW.out.one (k := 0) (by omega)
          rw [List.getElem?_map, HOK.out.zero] at hu4
          simp at hu4
          subst hu4
          simp only [Nat.add_zero] at hc4
          have hw0 : (0 : Int) < (nw : Int) := by omega
          have hd2 : decide ((nw : Int) < 2) = false := decide_eq_false (by omega)
          clear how hmx hnw hb3 hb4
          go_wp2_with fail
          obtain ⟨wi, rfl⟩ : ∃ wi : World, wi = wr := ⟨_, rfl⟩
          go_loopg [15] (nw - 1) (fun g s15 wr => ∃ j : Nat, 1 ≤ j ∧ j ≤ nw ∧ g = nw - j ∧ s15 = .int .i64 j ∧ RowKit.Hid (Fr wi.heap.size [] wi wr))
          case atStart => exact ⟨1, Nat.le_refl _, by omega, rfl, rfl, Lib.hid (Fr.refl _ _ _)⟩
          case round =>
            obtain ⟨j, hj1, hj, rfl, rfl, FJ⟩ := hrel
            have FWJ := Lib.hid (FWI.out.trans (FJ.out.mono (B' := w.heap.size) (L' := []) FWI.out.size (by simp)))
            obtain ⟨q, rfl⟩ : ∃ q, j = q + 1 := ⟨j - 1, by omega⟩
            clear hc3 hc4
            by_cases hjn : q + 1 < nw
            · obtain ⟨x, hx⟩ : ∃ x, wl[q]? = some x := ⟨_, List.getElem?_eq_getElem (by rw [← HNW.out]; omega)⟩
              obtain ⟨y, hy⟩ : ∃ y, wl[q + 1]? = some y := ⟨_, List.getElem?_eq_getElem (by rw [← HNW.out]; omega)⟩
              have HYC := Lib.hid (HOK.out.chain q x y hx hy)
              have hrj := RW.out.fr FJ.out (Nat.le_refl _) (by simp)
              obtain ⟨b5, o5, e5, hb5, hcc⟩ := hrj.2 (by omega)
              injection e5 with e5
              injection e5 with e51 e52
              subst e51
              subst e52
              have cx := hcc q (.int .i64 x) (by rw [List.getElem?_map, hx]; rfl)
              have cy := hcc (q + 1) (.int .i64 y) (by rw [List.getElem?_map, hy]; rfl)
              have HB4 := Lib.hid (Nat.lt_of_lt_of_le hb5 FJ.out.size)
              have hq0 : (0 : Int) ≤ (q : Int) := by omega
              have hq1 : (0 : Int) ≤ (q : Int) + 1 := by omega
              have hq2 : (q : Int) < (nw : Int) := by omega
              have hq3 : (q : Int) + 1 < (nw : Int) := by omega
              have hw1 : IntKind.i64.wrap ((q : Int) + 1 - 1) = (q : Int) := by rw [IntKind.wrap_i64]; omega
              have hw3 : IntKind.i64.wrap (q : Int) = (q : Int) := by rw [IntKind.wrap_i64]; omega
              have HCH := Lib.hid (fun (wx : World) (hx : Fr wr.heap.size [] wr wx) => (by
                have FX := FWJ.out.trans (hx.mono (B' := w.heap.size) (L' := []) FWJ.out.size (by simp))
                have := children_any x A c w.heap.size k M wx (HN.out wx FX) FX.size HS.out
                rw [show M.map (·.1) = L from HL.out.symm] at this
                exact this : Calls Try.prog 21 #[.slice A k c, .int .i64 x] wx (IntsOut (childN L x) wx)))
              have SF := Lib.hid (fun (w : World) (h : Fr wr.heap.size [] wr w) => (⟨(h.cell (p := ⟨b4, o4 + q, none⟩) HB4.out (by simp)).trans cx, (h.cell (p := ⟨b4, o4 + (q + 1), none⟩) HB4.out (by simp)).trans cy⟩ : w.cell? ⟨b4, o4 + q, none⟩ = some (.int .i64 x) ∧ w.cell? ⟨b4, o4 + (q + 1), none⟩ = some (.int .i64 y)))
              clear hx hy hrj hcc hb5 cx cy
              have INV := Lib.hid ((Fr.refl wr.heap.size [] wr).drew)
              go_wp2_with fail
              go_upto_region 32 with fail
              go_region_held3 (fun w => w.cell? ⟨b4, o4 + q, none⟩ = some (.int .i64 x) ∧ w.cell? ⟨b4, o4 + (q + 1), none⟩ = some (.int .i64 y)) (exact SF.out _ INV.out)
                ((first
                  | (go_at_call 21; refine (HCH.out _ INV.out).mono ?_; rintro e w' ⟨A9, c9, k9, hk9, rfl, ho9, f9⟩; have INV := Lib.hid (INV.out.trans (f9.mono INV.out.size (by simp))); have HHS := Lib.hid (child_has HYC.out A9 c9 k9 w' hk9 (childN_le8 HRG.out.len x) (Reads.of_own ho9)); clear hk9 ho9 f9)
                  | (go_at_call 31; refine HHS.out.mono ?_; rintro e w' ⟨rfl, rfl⟩)))
              all_goals
                go_wp2_with fail
                go_roundg (nw - (q + 1 + 1))
                case measure => omega
                case rel => exact ⟨q + 1 + 1, by omega, by omega, rfl, by go_num, Lib.hid (FJ.out.trans (INV.out.mono (B' := wi.heap.size) (L' := []) FJ.out.size (by simp)))⟩
            · have hjq : q + 1 = nw := by omega
              obtain ⟨z, hz⟩ : ∃ z, wl[q]? = some z := ⟨_, List.getElem?_eq_getElem (by rw [← HNW.out]; omega)⟩
              have HZK := Lib.hid (HOK.out.last z (by rw [← HNW.out, ← hjq]; exact hz))
              have hrj := RW.out.fr FJ.out (Nat.le_refl _) (by simp)
              obtain ⟨b5, o5, e5, hb5, hcc⟩ := hrj.2 (by omega)
              injection e5 with e5
              injection e5 with e51 e52
              subst e51
              subst e52
              have cz := hcc q (.int .i64 z) (by rw [List.getElem?_map, hz]; rfl)
              subst hjq
              have hq0 : (0 : Int) ≤ (q : Int) := by omega
              have hq2 : (q : Int) < (q : Int) + 1 := by omega
              have hw1 : IntKind.i64.wrap ((q : Int) + 1 - 1) = (q : Int) := by rw [IntKind.wrap_i64]; omega
              have HFI := find_any z A c w.heap.size k M wr (HN.out wr FWJ.out) FWJ.out.size HS.out
              rw [show M.map (·.1) = L from HL.out.symm] at HFI
              replace HFI := Lib.hid HFI
              clear hz hrj hcc hb5
              go_wp2_with fail
              refine HFI.out.mono ?_
              rintro e w7 hfo
              obtain ⟨x, sf, sp, hx, rfl, hin7, f7⟩ := hfo.get
              have hkz : x.kind = 2 := by rw [hx]; exact HZK.out
              obtain ⟨kd, hkd⟩ : ∃ i, i = x.kind := ⟨_, rfl⟩
              obtain ⟨⟨Af, cf, hf1, _⟩, ⟨Aq, cq, hp1, _⟩⟩ := hin7
              simp only at hf1 hp1
              subst hf1
              subst hp1
              have fa := (Fr.refl w7.heap.size [] w7).alloc (Nat.le_refl _) (.cells (ndA x (.slice Af x.fr.length cf) (.slice Aq x.pg.length cq)) 38)
              have BX := Lib.hid (Blk.new w7 38 (ndA x (.slice Af x.fr.length cf) (.slice Aq x.pg.length cq)))
              have FJ8 := Lib.hid (FJ.out.trans ((f7.trans (fa.mono (B' := wr.heap.size) (L' := []) f7.size (by simp))).mono (B' := wi.heap.size) (L' := []) FJ.out.size (by simp)))
              obtain ⟨ob, hob⟩ : ∃ b, b = (findN L z).isSome := ⟨_, rfl⟩
              rw [← hob]
              have HKZ := Lib.hid hkz
              clear hfo hx f7 fa HFI hob hkd hkz
              go_upto_region 35 with fail
              generalize w7.alloc (.cells (ndA x (.slice Af x.fr.length cf) (.slice Aq x.pg.length cq)) 38) = w8 at *
              generalize w7.heap.size = gx at *
              have q1 := BX.out.cell 1
              simp at q1
              rw [HKZ.out] at q1
              have HL8 := Lib.hid (HLI.out.mv FJ8.out)
              have RW8 := Lib.hid ((RW.out.fr FJ8.out (Nat.le_refl _) (by simp)).more FJ8.out.size)
              clear cz
              go_wp2_with fail
              go_loopg [133] i (fun g s133 wr => ∃ p : Nat, p ≤ i ∧ g = i - p ∧ s133 = .int .i64 p ∧ RowKit.Hid (Fr w8.heap.size [] w8 wr))
              case atStart => exact ⟨0, Nat.zero_le _, rfl, rfl, Lib.hid (Fr.refl _ _ _)⟩
              case round =>
                obtain ⟨p, hp, rfl, rfl, FP⟩ := hrel
                clear q1
                by_cases hpi : p < i
                · have hpk : (p : Int) < (i : Int) := by omega
                  have hp0 : (0 : Int) ≤ (p : Int) := by omega
                  have HLP := HL8.out.mv FP.out
                  obtain ⟨m, hmp⟩ : ∃ m, X[p]? = some m := ⟨_, List.getElem?_eq_getElem (by rw [← HLI.out.num]; omega)⟩
                  obtain ⟨⟨Av, cv, hsv, _⟩, hov⟩ := HLP.inn m (List.mem_of_getElem? hmp)
                  obtain ⟨vl, sv⟩ := m
                  simp only at hsv hov
                  subst hsv
                  obtain ⟨b6, o6, e6, hb6, hc6⟩ := (Reads.of_own HLP.own).2 (by omega)
                  injection e6 with e6
                  injection e6 with e61 e62
                  subst e61
                  subst e62
                  have cp6 := hc6 p (.slice Av vl.length cv) (by rw [List.getElem?_map, hmp]; rfl)
                  have hvok := way_ok HRG.out (l := vl) (by rw [← HXX.out]; exact List.mem_map.2 ⟨_, List.mem_of_getElem? hmp, rfl⟩)
                  have hne : vl ≠ wl := by
                    intro e
                    have hnd := ways_apart (L := L)
                    rw [← HXX.out] at hnd
                    have h1 : (fstL X)[p]? = some vl := by simp [fstL, hmp]
                    have h2 : (fstL X)[i]? = some wl := by simp [fstL, HMX.out]
                    have := (List.getElem?_inj (i := p) (j := i) (by simp [fstL, ← HLI.out.num]; omega) hnd).1 (by rw [h1, h2, e])
                    omega
                  have HII := rints_any Av (some ⟨b4, o4, none⟩) cv cw wr.heap.size vl.length (q + 1) vl wl wr rfl HNW.out (by have := hvok.len; omega) (by omega) (Reads.of_own hov) ((RW8.out.fr FP.out (Nat.le_refl _) (by simp)).more FP.out.size)
                  rw [decide_eq_false hne] at HII
                  replace HII := Lib.hid HII
                  obtain ⟨nv, hnv⟩ : ∃ z, z = vl.length := ⟨_, rfl⟩
                  rw [← hnv] at cp6 HII
                  clear hov hmp hc6 hb6 hvok hne hnv
                  go_wp2_with fail
                  refine HII.out.mono ?_
                  rintro e w9 ⟨rfl, f9⟩
                  have FP9 := Lib.hid (FP.out.trans (f9.mono (B' := w8.heap.size) (L' := []) FP.out.size (by simp)))
                  clear f9 HII
                  go_wp2_with fail
                  go_roundg (i - (p + 1))
                  case measure => omega
                  case rel => exact ⟨p + 1, by omega, rfl, by go_num, FP9⟩
                · obtain rfl : p = i := by omega
                  have FE := Lib.hid (FI.out.trans ((FJ8.out.trans (FP.out.mono (B' := wi.heap.size) (L' := []) FJ8.out.size (by simp))).mono (B' := wp.heap.size) (L' := []) FI.out.size (by simp)))
                  go_wp2_with fail
                  go_roundg (np - (p + 1))
                  case measure => omega
                  case rel => exact ⟨p + 1, by omega, rfl, by go_num, FE⟩
        · obtain rfl : i = np := by omega
          have hmi : mk = i := HMM.out
          subst hmi
          have hlen := dmap_len (n := k) (HDR.out.fr FI.out HDR.out.lt (by simp)) HEL.out
          go_wp2_with fail
          go_ret
          exact ⟨rfl, FWI.out.below⟩
end Go.Proofs.Ytddngibfhklnfaa
