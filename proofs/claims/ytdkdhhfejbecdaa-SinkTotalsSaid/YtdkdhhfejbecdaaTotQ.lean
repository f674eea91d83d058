/- Plain law: a map of totals is gone through, each entry once. -/
import Derived.Test.YtdkdhhfejbecdaaTotP
import Derived.Test.YtdkdhhfejbecdaaBookB
namespace Go.Proofs.Ytdkdhhfejbecdaa
open Go.RowKit Go.Fb
theorem plV_inj {p q : Pl} (h : plV p = plV q) : p = q := by
  obtain ⟨a, b, c⟩ := p
  obtain ⟨a', b', c'⟩ := q
  unfold plV at h
  injection h with h
  simp only [Array.mk.injEq, List.cons.injEq, Value.int.injEq, true_and, and_true] at h
  obtain ⟨rfl, rfl, rfl⟩ := h
  rfl
/-- What has been taken out of the map so far. -/
structure Took (es : Array MapEntry) (K K' : List Pl) (seen : Array Nat) : Prop where
  nd : K'.Nodup
  sub : ∀ p ∈ K', p ∈ K
  all : ∀ e ∈ es.toList, seen.contains e.born = true → ∃ p ∈ K', e.key = plV p
  back : ∀ e ∈ es.toList, ∀ p ∈ K', e.key = plV p → seen.contains e.born = true
theorem Took.start (es : Array MapEntry) (K : List Pl) : Took es K [] #[] := ⟨List.nodup_nil, by simp, by simp, by simp⟩
theorem same_of_key {f : Pl → Value} : ∀ {es : List MapEntry} {K : List Pl}, es.map (fun e => (e.key, e.val)) = (keep K f).map (fun x => (plV x.1, x.2)) → K.Nodup → ∀ {e e' : MapEntry}, e ∈ es → e' ∈ es → e.key = e'.key → e = e'
  | [], _, _, _, _, _, h, _, _ => by cases h
  | x :: es, [], he, _, _, _, _, _, _ => by simp [keep] at he
  | x :: es, p :: K, he, hnd, e, e', h, h', hk => by
    simp only [keep, List.map_cons, List.cons.injEq, Prod.mk.injEq] at he
    obtain ⟨⟨hx, _⟩, he⟩ := he
    obtain ⟨hp, hnd⟩ := List.nodup_cons.1 hnd
    have far : ∀ y ∈ es, y.key ≠ plV p := fun y hy hyp => by
      have : (y.key, y.val) ∈ (K.map fun p => (p, f p)).map (fun x => (plV x.1, x.2)) := by rw [← he]; exact List.mem_map.2 ⟨y, hy, rfl⟩
      rw [List.map_map] at this
      obtain ⟨q, hq, he2⟩ := List.mem_map.1 this
      simp only [Function.comp, Prod.mk.injEq] at he2
      have : q = p := plV_inj (he2.1.trans hyp)
      exact hp (this ▸ hq)
    rcases List.mem_cons.1 h with h1 | h1 <;> rcases List.mem_cons.1 h' with h2 | h2
    · rw [h1, h2]
    · subst h1; exact absurd (hk.symm.trans hx) (far _ h2)
    · subst h2; exact absurd (hk.trans hx) (far _ h1)
    · exact same_of_key (K := K) (f := f) he hnd h1 h2 hk
theorem entry_pl {f : Pl → Value} {es : Array MapEntry} {K : List Pl} (he : es.toList.map (fun e => (e.key, e.val)) = (keep K f).map (fun x => (plV x.1, x.2))) {e : MapEntry} (h : e ∈ es.toList) : ∃ p ∈ K, e.key = plV p ∧ e.val = f p := by
  have : (e.key, e.val) ∈ (keep K f).map (fun x => (plV x.1, x.2)) := by rw [← he]; exact List.mem_map.2 ⟨e, h, rfl⟩
  unfold keep at this
  rw [List.map_map] at this
  obtain ⟨p, hp, h2⟩ := List.mem_map.1 this
  simp only [Function.comp, Prod.mk.injEq] at h2
  exact ⟨p, hp, h2.1.symm, h2.2.symm⟩
theorem Took.step {f : Pl → Value} {es : Array MapEntry} {K K' : List Pl} {seen : Array Nat} (h : Took es K K' seen) (hbn : (es.toList.map (·.born)).Nodup)
    (he : es.toList.map (fun e => (e.key, e.val)) = (keep K f).map (fun x => (plV x.1, x.2))) (hnd : K.Nodup) {e : MapEntry} (hel : e ∈ (leftOf es seen).toList) {p : Pl} (hp : p ∈ K) (hk : e.key = plV p) : Took es K (K' ++ [p]) (seen.push e.born) := by
  have hes : e ∈ es.toList := (mem_left hel).1
  have hns : seen.contains e.born = false := by
    unfold leftOf at hel
    rw [Array.mem_toList_iff, Array.mem_filter] at hel
    simpa using hel.2
  have hpn : p ∉ K' := fun hc => by rw [h.back e hes p hc hk] at hns; cases hns
  refine ⟨?_, fun q hq => ?_, fun y hy hs => ?_, fun y hy q hq hyq => ?_⟩
  · rw [List.nodup_append]
    exact ⟨h.nd, by simp, fun a ha b hb => by rw [List.mem_singleton] at hb; subst hb; exact fun e => hpn (e ▸ ha)⟩
  · rcases List.mem_append.1 hq with hq | hq
    · exact h.sub q hq
    · rw [List.mem_singleton] at hq; subst hq; exact hp
  · rw [contains_push] at hs
    cases hc : seen.contains y.born with
    | true =>
      obtain ⟨q, hq, hyq⟩ := h.all y hy hc
      exact ⟨q, List.mem_append_left _ hq, hyq⟩
    | false =>
      rw [hc, Bool.false_or, beq_iff_eq] at hs
      have hye : y = e := by
        have a := find_born y es.toList hbn hy
        have b := find_born e es.toList hbn hes
        rw [hs, b] at a
        injection a with a
        exact a.symm
      subst hye
      exact ⟨p, by simp, hk⟩
  · rw [contains_push]
    rcases List.mem_append.1 hq with hq | hq
    · rw [h.back y hy q hq hyq, Bool.true_or]
    · rw [List.mem_singleton] at hq
      subst hq
      have : y = e := same_of_key he hnd hy hes (hyq.trans hk.symm)
      subst this
      simp
theorem Took.done {l : List (Nat → Int)} {f : Pl → Value} {es : Array MapEntry} {K K' : List Pl} {seen : Array Nat} (h : Took es K K' seen) (he : es.toList.map (fun e => (e.key, e.val)) = (keep K f).map (fun x => (plV x.1, x.2))) (h0 : (leftOf es seen).size = 0) (hK : KeysOk l K) : KeysOk l K' := by
  refine ⟨h.nd, fun p => ⟨fun hp => (hK.mem p).1 (h.sub p hp), fun hp => ?_⟩⟩
  have hp := (hK.mem p).2 hp
  have : (plV p, f p) ∈ es.toList.map (fun e => (e.key, e.val)) := by
    rw [he, keep, List.map_map]
    exact List.mem_map.2 ⟨p, hp, rfl⟩
  obtain ⟨e, hes, h2⟩ := List.mem_map.1 this
  simp only [Prod.mk.injEq] at h2
  have hs : seen.contains e.born = true := by
    cases hc : seen.contains e.born with
    | true => rfl
    | false =>
      exfalso
      have hm : e ∈ leftOf es seen := by unfold leftOf; rw [Array.mem_filter]; exact ⟨by simpa using hes, by rw [hc]; rfl⟩
      have : leftOf es seen = #[] := Array.eq_empty_of_size_eq_zero h0
      rw [this] at hm
      simp at hm
  obtain ⟨q, hq, hk⟩ := h.all e hes hs
  rw [h2.1] at hk
  rw [plV_inj hk]
  exact hq
end Go.Proofs.Ytdkdhhfejbecdaa
