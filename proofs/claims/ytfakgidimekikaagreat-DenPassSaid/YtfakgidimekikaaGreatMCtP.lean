/- Texts merged into one, for the number of files a claim may have: CtP. -/
import Derived.Test.YtfakgidimekikaaGreatMCtA
import Derived.Maps.RangeRun
namespace Go.Proofs.YtfakgidimekikaaGreat
open Go.RowKit Go.Fb
set_option linter.unusedVariables false
theorem rises_uniq {α : Type} (f : α → Int) : ∀ {A B : List α}, A.Pairwise (fun a b => f a < f b) → B.Pairwise (fun a b => f a < f b) → (∀ x, x ∈ A ↔ x ∈ B) → A = B
  | [], [], _, _, _ => rfl
  | [], b :: B, _, _, h => absurd ((h b).2 (by simp)) (by simp)
  | a :: A, [], _, _, h => absurd ((h a).1 (by simp)) (by simp)
  | a :: A, b :: B, ha, hb, h => by
    obtain ⟨a1, a2⟩ := List.pairwise_cons.1 ha
    obtain ⟨b1, b2⟩ := List.pairwise_cons.1 hb
    have hab : a = b := by
      rcases List.mem_cons.1 ((h a).1 (by simp)) with e | e
      · exact e
      · rcases List.mem_cons.1 ((h b).2 (by simp)) with e' | e'
        · exact e'.symm
        · have := b1 a e
          have := a1 b e'
          omega
    subst hab
    congr 1
    refine rises_uniq f a2 b2 fun x => ⟨fun hx => ?_, fun hx => ?_⟩
    · rcases List.mem_cons.1 ((h x).1 (List.mem_cons_of_mem _ hx)) with e | e
      · subst e; have := a1 x hx; omega
      · exact e
    · rcases List.mem_cons.1 ((h x).2 (List.mem_cons_of_mem _ hx)) with e | e
      · subst e; have := b1 x hx; omega
      · exact e
/-- The entry of a place. -/
def entF (p : Pk) (c : CV) : Nat → Int := fun j => if j = 0 then p.1 else if j = 1 then p.2 else if j = 2 then c.1 else if j = 3 then c.2.1 else if j = 4 then c.2.2.1 else c.2.2.2
theorem entF_C (p : Pk) (c : CV) : entC (entF p c) = [.int .i64 p.1, .int .i64 p.2, .int .i64 c.1, .int .i64 c.2.1, .int .i64 c.2.2.1, .int .i64 c.2.2.2] := rfl
theorem entF_P (p : Pk) (c : CV) : entP (entF p c) = p := rfl
theorem entF_V (p : Pk) (c : CV) : entV (entF p c) = c := rfl
/-- All places, in order. -/
def plcs : List Pk := (List.range 512).map fun i => (((i / 64 : Nat) : Int), ((i % 64 : Nat) : Int))
def rankP (p : Pk) : Int := p.1 * 64 + p.2
theorem plcs_rank : plcs.Pairwise (fun a b => rankP a < rankP b) := by
  unfold plcs
  rw [List.pairwise_map]
  refine List.Pairwise.imp ?_ List.pairwise_lt_range
  intro a b h
  unfold rankP
  omega
theorem plcs_mem (p : Pk) : p ∈ plcs ↔ thereB p = true := by
  unfold plcs thereB
  rw [decide_eq_true_iff, List.mem_map]
  constructor
  · rintro ⟨i, hi, rfl⟩
    rw [List.mem_range] at hi
    simp only
    omega
  · rintro ⟨h1, h2, h3, h4⟩
    refine ⟨(p.1 * 64 + p.2).toNat, List.mem_range.2 (by omega), ?_⟩
    obtain ⟨a, b⟩ := p
    simp only at *
    have e : ((a * 64 + b).toNat : Int) = a * 64 + b := by omega
    have e1 : (((a * 64 + b).toNat / 64 : Nat) : Int) = a := by omega
    have e2 : (((a * 64 + b).toNat % 64 : Nat) : Int) = b := by omega
    rw [e1, e2]
/-- What is kept at places that are asked for, in order. -/
def someT (q : Pk → Bool) (T : Pk → CV) : List Pk := plcs.filter fun p => decide (T p ≠ c0) && q p
def someE (q : Pk → Bool) (T : Pk → CV) : List (Nat → Int) := (someT q T).map fun p => entF p (T p)
def allT (T : Pk → CV) : List (Nat → Int) := someE (fun _ => true) T
theorem someT_mem {q : Pk → Bool} {T : Pk → CV} {p : Pk} : p ∈ someT q T ↔ thereB p = true ∧ T p ≠ c0 ∧ q p = true := by
  unfold someT
  rw [List.mem_filter, plcs_mem, Bool.and_eq_true, decide_eq_true_iff]
theorem someT_rank (q : Pk → Bool) (T : Pk → CV) : (someT q T).Pairwise (fun a b => rankP a < rankP b) := plcs_rank.sublist List.filter_sublist
/-- Is all that is kept at right places, and right? -/
def TOk (T : Pk → CV) : Prop := ∀ p, T p ≠ c0 → thereB p = true ∧ cvB (T p) = true
theorem TOk.zero : TOk (fun _ => c0) := fun p h => absurd rfl h
theorem TOk.upd {T : Pk → CV} (h : TOk T) {p : Pk} {c : CV} (hc : setB2 p c = true) : TOk (updT T p c) := by
  intro q hq
  unfold updT at hq ⊢
  unfold setB2 at hc
  rw [Bool.and_eq_true] at hc
  by_cases e : q = p
  · rw [if_pos e]; subst e; exact hc
  · rw [if_neg e] at hq ⊢; exact h q hq
theorem TOk.del {T : Pk → CV} (h : TOk T) (p : Pk) : TOk (updT T p c0) := by
  intro q hq
  unfold updT at hq ⊢
  by_cases e : q = p
  · rw [if_pos e] at hq; exact absurd rfl hq
  · rw [if_neg e] at hq ⊢; exact h q hq
theorem tabL_ok : ∀ (l : List (Nat → Int)) (T : Pk → CV), TOk T → (l.all okE = true) → TOk (l.foldl putT T)
  | [], T, h, _ => h
  | x :: l, T, h, ha => by
    rw [List.all_cons, Bool.and_eq_true] at ha
    exact tabL_ok l _ (h.upd ha.1) ha.2
/-- What has been taken out of the map so far. -/
structure TookK (es : Array MapEntry) (K K' : List Pk) (seen : Array Nat) : Prop where
  nd : K'.Nodup
  sub : ∀ p ∈ K', p ∈ K
  all : ∀ e ∈ es.toList, seen.contains e.born = true → ∃ p ∈ K', e.key = pkV p
  back : ∀ e ∈ es.toList, ∀ p ∈ K', e.key = pkV p → seen.contains e.born = true
theorem TookK.start (es : Array MapEntry) (K : List Pk) : TookK es K [] #[] := ⟨List.nodup_nil, by simp, by simp, by simp⟩
section
variable {T : Pk → CV} {es : Array MapEntry} {clock : Nat} {K K' : List Pk} {seen : Array Nat}
theorem sameK : ∀ {es : List MapEntry} {K : List Pk}, es.map (fun e => (e.key, e.val)) = K.map (fun p => (pkV p, cvV (T p))) → K.Nodup → ∀ {e e' : MapEntry}, e ∈ es → e' ∈ es → e.key = e'.key → e = e'
  | [], _, _, _, _, _, h, _, _ => by cases h
  | x :: es, [], he, _, _, _, _, _, _ => by simp at he
  | x :: es, p :: K, he, hnd, e, e', h, h', hk => by
    simp only [List.map_cons, List.cons.injEq, Prod.mk.injEq] at he
    obtain ⟨⟨hx, _⟩, he⟩ := he
    obtain ⟨hp, hnd⟩ := List.nodup_cons.1 hnd
    have far : ∀ y ∈ es, y.key ≠ pkV p := fun y hy hyp => by
      have : (y.key, y.val) ∈ K.map (fun p => (pkV p, cvV (T p))) := by rw [← he]; exact List.mem_map.2 ⟨y, hy, rfl⟩
      obtain ⟨q, hq, he2⟩ := List.mem_map.1 this
      simp only [Prod.mk.injEq] at he2
      have : q = p := pkV_inj (he2.1.trans hyp)
      exact hp (this ▸ hq)
    rcases List.mem_cons.1 h with h1 | h1 <;> rcases List.mem_cons.1 h' with h2 | h2
    · rw [h1, h2]
    · subst h1; exact absurd (hk.symm.trans hx) (far _ h2)
    · subst h2; exact absurd (hk.trans hx) (far _ h1)
    · exact sameK (K := K) he hnd h1 h2 hk
theorem entryK (he : Ents es clock K T) {e : MapEntry} (h : e ∈ es.toList) : ∃ p ∈ K, e.key = pkV p ∧ e.val = cvV (T p) := by
  have : (e.key, e.val) ∈ K.map (fun p => (pkV p, cvV (T p))) := by rw [← he.kv]; exact List.mem_map.2 ⟨e, h, rfl⟩
  obtain ⟨p, hp, h2⟩ := List.mem_map.1 this
  simp only [Prod.mk.injEq] at h2
  exact ⟨p, hp, h2.1.symm, h2.2.symm⟩
theorem TookK.step (h : TookK es K K' seen) (he : Ents es clock K T) {e : MapEntry} (hel : e ∈ (leftOf es seen).toList) {p : Pk} (hp : p ∈ K) (hk : e.key = pkV p) : TookK es K (K' ++ [p]) (seen.push e.born) := by
  have hes : e ∈ es.toList := (mem_left hel).1
  have hns : seen.contains e.born = false := by
    unfold leftOf at hel
    rw [Array.mem_toList_iff, Array.mem_filter] at hel
    simpa using hel.2
  have hpn : p ∉ K' := fun hc => by rw [h.back e hes p hc hk] at hns; cases hns
  refine ⟨?_, fun q hq => ?_, fun y hy hs => ?_, fun y hy q hq hyq => ?_⟩
  · rw [List.nodup_append]
    exact ⟨h.nd, by simp, fun a ha b hb => by rw [List.mem_singleton] at hb; subst hb; exact fun e => hpn (e ▸ ha)⟩
  · rcases List.mem_append.1 hq with hq | hq
    · exact h.sub q hq
    · rw [List.mem_singleton] at hq; subst hq; exact hp
  · rw [contains_push] at hs
    cases hc : seen.contains y.born with
    | true =>
      obtain ⟨q, hq, hyq⟩ := h.all y hy hc
      exact ⟨q, List.mem_append_left _ hq, hyq⟩
    | false =>
      rw [hc, Bool.false_or, beq_iff_eq] at hs
      have hye : y = e := by
        have a := find_born y es.toList he.born hy
        have b := find_born e es.toList he.born hes
        rw [hs, b] at a
        injection a with a
        exact a.symm
      subst hye
      exact ⟨p, by simp, hk⟩
  · rw [contains_push]
    rcases List.mem_append.1 hq with hq | hq
    · rw [h.back y hy q hq hyq, Bool.true_or]
    · rw [List.mem_singleton] at hq
      subst hq
      have : y = e := sameK he.kv he.nd hy hes (hyq.trans hk.symm)
      subst this
      simp
theorem TookK.done (h : TookK es K K' seen) (he : Ents es clock K T) (h0 : (leftOf es seen).size = 0) : ∀ p, p ∈ K' ↔ T p ≠ c0 := by
  refine fun p => ⟨fun hp => (he.mem p).1 (h.sub p hp), fun hp => ?_⟩
  have hp := (he.mem p).2 hp
  have : (pkV p, cvV (T p)) ∈ es.toList.map (fun e => (e.key, e.val)) := by
    rw [he.kv]
    exact List.mem_map.2 ⟨p, hp, rfl⟩
  obtain ⟨e, hes, h2⟩ := List.mem_map.1 this
  simp only [Prod.mk.injEq] at h2
  have hs : seen.contains e.born = true := by
    cases hc : seen.contains e.born with
    | true => rfl
    | false =>
      exfalso
      have hm : e ∈ leftOf es seen := by unfold leftOf; rw [Array.mem_filter]; exact ⟨by simpa using hes, by rw [hc]; rfl⟩
      have : leftOf es seen = #[] := Array.eq_empty_of_size_eq_zero h0
      rw [this] at hm
      simp at hm
  obtain ⟨q, hq, hk⟩ := h.all e hes hs
  rw [h2.1] at hk
  rw [pkV_inj hk]
  exact hq
end
theorem stB_fr (w : World) (r : Nat) (o : Obj) : Fr w.heap.size [r] w (Go.ChangeMaps.setBlock w r o) :=
  ⟨rfl, rfl, rfl, by simp [Go.ChangeMaps.setBlock], fun k _ hk => by
    have : r ≠ k := fun h => hk (by simp [h])
    simp [Go.ChangeMaps.setBlock, this]⟩
theorem stB_new {w : World} {r : Nat} (h : r < w.heap.size) (o : Obj) : (Go.ChangeMaps.setBlock w r o).heap[r]? = some o := by simp [Go.ChangeMaps.setBlock, h]
theorem seen_of {w : World} {r : Nat} {m : Option Nat} {a c : Nat} {s : Array Nat} (h : w.heap[r]? = some (.mapIter m a s c)) : w.iterSeen r = s := by
  unfold World.iterSeen; rw [h]
end Go.Proofs.YtfakgidimekikaaGreat
