/- A map from [3]int to totals that the call made: map[[3]int]Total. -/
import Derived.Test.YtdkdhhfejbecdaaPlMap
import Derived.ChangeKeysEq
import Derived.Maps.RangeRun
namespace Go.Proofs.Ytdkdhhfejbecdaa
open Go.RowKit Go.Fb
theorem eqItems_int3 {e : TypeId} {k : IntKind} {P : Program} (he : P.underlying e = some (.int k)) (hc : P.cellsOf e = 1) (d : Nat) (xs ys : Array Value) (f g : Nat → Int) (w : World) :
    ∀ is : List Nat, (∀ j ∈ is, xs[j]? = some (.int k (f j)) ∧ ys[j]? = some (.int k (g j))) → (Op.eqItems (d + 1) e (P.cellsOf e) xs ys is).run P w = .ok (is.all fun j => f j == g j) w
  | [], _ => by simp [Op.eqItems]
  | i :: is, h => by
    obtain ⟨h1, h2⟩ := h i (by simp)
    have ih := eqItems_int3 he hc d xs ys f g w is (fun j hj => h j (by simp [hj]))
    have p1 : (part e xs (i * P.cellsOf e)).run P w = .ok (.int k (f i)) w := by simp [part, isAgg, run_underlying he, hc, h1]
    have p2 : (part e ys (i * P.cellsOf e)).run P w = .ok (.int k (g i)) w := by simp [part, isAgg, run_underlying he, hc, h2]
    simp only [Op.eqItems, Sem.run_bind, p1, p2, Result.andThen_ok, run_equalIn_int w d e k k (f i) (g i) he]
    cases hb : (f i == g i)
    · simp [hb]
    · simp [ih, hb]
def plF (p : Pl) (j : Nat) : Int := if j = 0 then p.1 else if j = 1 then p.2.1 else p.2.2
set_option maxRecDepth 100000 in
theorem t3_eq (x y : Pl) (w : World) : (Op.equal 23 (plV x) (plV y)).run Try.prog w = .ok (decide (x = y)) w := by
  have info : (Try.prog.info? 3).map (fun i => (i.zero, i.size, i.bytes)) = some (some (.int .i64 0), 1, 8) := by kernel_rfl
  obtain ⟨i, hi, _⟩ := info_parts info
  have h : (Op.equalIn 10000 23 (plV x) (plV y)).run Try.prog w = .ok ((List.range 3).all fun j => plF x j == plF y j) w := by
    rw [run_equalIn_array w 9999 _ _ Try.underlying23 hi]
    refine eqItems_int3 Try.underlying3 (by kernel_rfl) 9998 _ _ (plF x) (plF y) w _ (fun j hj => ?_)
    have hj3 : j < 3 := by simpa using hj
    match j, hj3 with
    | 0, _ | 1, _ | 2, _ => exact ⟨rfl, rfl⟩
  have e : ((List.range 3).all fun j => plF x j == plF y j) = decide (x = y) := by
    rw [← pl_beq]
    simp [List.range_succ, plF, Bool.and_assoc]
  rw [e] at h
  simp [Op.equal, Op.maxDepth, h]
set_option maxRecDepth 100000 in
theorem t3_check (b : Bool) (x : Pl) (w : World) : (Instr.checkKey b 10000 23 (plV x)).run Try.prog w = .ok () w := by
  have hi : ∀ v : Int, (Instr.checkKey b 9999 3 (.int .i64 v)).run Try.prog w = .ok () w := fun v => MapKept.run_checkKey (k := .int .i64 v) Try.underlying3 (by simp [MapKept.IsKey]) b 9998
  have hsz : (sizeOf 3).run Try.prog w = .ok 1 w := by kernel_rfl
  rw [show (10000 : Nat) = 9999 + 1 from rfl]
  unfold Instr.checkKey
  simp [run_underlying Try.underlying23, Result.andThen, part, isAgg, run_underlying Try.underlying3, hi, hsz, Std.Legacy.Range.forIn_eq_forIn_range', List.range']
/-- Block r is the map that keeps ps. -/
def TMap (w : World) (r : Nat) (ps : List (Pl × Value)) : Prop :=
  ∃ es clock, w.heap[r]? = some (.map es clock) ∧ (∀ x ∈ es.toList, x.born < clock) ∧ (es.toList.map (·.born)).Nodup ∧ es.toList.map (fun e => (e.key, e.val)) = ps.map (fun x => (plV x.1, x.2))
theorem t3_asking (x : Pl) (w : World) : ∀ (es : List MapEntry) (ps : List (Pl × Value)) (i : Nat), es.map (fun e => (e.key, e.val)) = ps.map (fun y => (plV y.1, y.2)) → (Instr.findAsking 23 (plV x) es i).run Try.prog w = .ok (findP x ps i) w
  | [], [], i, _ => by simp [Instr.findAsking, findP]
  | [], _ :: _, _, h => by simp at h
  | _ :: _, [], _, h => by simp at h
  | e :: es, y :: l, i, h => by
    simp only [List.map_cons, List.cons.injEq, Prod.mk.injEq] at h
    obtain ⟨⟨h1, h2⟩, h3⟩ := h
    have ih := t3_asking x w es l (i + 1) h3
    have he := t3_eq x y.1 w
    rw [← h1] at he
    unfold findP
    by_cases hxy : x = y.1
    · rw [decide_eq_true hxy] at he
      rw [if_pos hxy]
      simp [Instr.findAsking, he, Result.andThen, h2]
    · rw [decide_eq_false hxy] at he
      rw [if_neg hxy]
      simp only [Instr.findAsking, Sem.run_bind, he, Result.andThen_ok, Bool.false_eq_true, if_false]
      exact ih
theorem t3_find {w : World} {ps : List (Pl × Value)} (x : Pl) (es : Array MapEntry) (h : es.toList.map (fun e => (e.key, e.val)) = ps.map (fun y => (plV y.1, y.2))) :
    (Instr.findKey 23 (plV x) es.toList).run Try.prog w = .ok (findP x ps 0) w := by
  have ha := t3_asking x w es.toList ps 0 h
  cases hl : es.toList with
  | nil =>
    rw [hl] at h
    have : ps = [] := by simpa using h.symm
    subst this
    simp [Instr.findKey, run_underlying Try.underlying23, Result.andThen, Instr.findNow, findP]
  | cons e es' =>
    rw [hl] at ha h
    cases ps with
    | nil => simp at h
    | cons y l' =>
      have hk : e.key = plV y.1 := by simp at h; exact h.1.1
      have hn : Instr.findNow (Try.prog.underlying 23 |>.getD .bool) (plV x) (e :: es') 0 = none := by
        rw [Try.underlying23]
        simp [Instr.findNow, hk, Instr.sameNow]
      have hrun : (Instr.findKey 23 (plV x) (e :: es')).run Try.prog w = (Instr.findAsking 23 (plV x) (e :: es') 0).run Try.prog w := by
        rw [Try.underlying23] at hn
        simp only [Option.getD_some] at hn
        simp [Instr.findKey, run_underlying Try.underlying23, Result.andThen, hn]
      rw [hrun]
      exact ha
theorem TMap.lt {w : World} {r : Nat} {ps : List (Pl × Value)} (h : TMap w r ps) : r < w.heap.size := by
  obtain ⟨es, clock, hb, _⟩ := h
  rcases Nat.lt_or_ge r w.heap.size with h | h
  · exact h
  · rw [Array.getElem?_eq_none h] at hb; cases hb
theorem TMap.new (w : World) : TMap (w.alloc (.map #[] 0)) w.heap.size [] := ⟨#[], 0, heap_alloc_new w _, by simp, by simp, rfl⟩
theorem TMap.fr {w w' : World} {r B : Nat} {L : List Nat} {ps : List (Pl × Value)} (h : TMap w r ps) (hf : Fr B L w w') (h1 : r < B) (h2 : r ∉ L) : TMap w' r ps := by
  obtain ⟨es, clock, hb, he⟩ := h
  exact ⟨es, clock, (hf.block r h1 h2).trans hb, he⟩
theorem TMap.ne {w : World} {r g t : Nat} {ps : List (Pl × Value)} {cs : Array Value} (h : TMap w r ps) (hb : Blk w g t cs) : r ≠ g := by
  rintro rfl
  obtain ⟨es, clock, h1, _⟩ := h
  unfold Blk at hb
  rw [h1] at hb
  cases hb
theorem TMap.ne_own {w : World} {r : Nat} {ps : List (Pl × Value)} {base e size n : Nat} {v : Value} {xs : List Value} (h : TMap w r ps) (ho : w.ownsRow base e size v n xs) : some r ≠ v.ownBlock := by
  intro he
  rcases ho.2 with ⟨rfl, _⟩ | ⟨g', cap, cur, rfl, _, hgg, _⟩
  · cases he
  · have he' : r = g' := by simpa [Value.ownBlock] using he
    subst he'
    obtain ⟨es, clock, h1, _⟩ := h
    rw [h1] at hgg
    cases hgg
/-- What is kept of a key, or nothing. -/
def totZ : Value := .agg #[.int .i64 0, .int .i64 0, .int .i64 0, .int .i64 0, .int .i64 0, .int .i64 0]
def getT (ps : List (Pl × Value)) (p : Pl) : Value := match findP p ps 0 with
  | none => totZ
  | some x => x.2
theorem getT_put (ps : List (Pl × Value)) (p q : Pl) (v : Value) : getT (putP ps p v) q = if q = p then v else getT ps q := by
  unfold getT putP
  cases hf : findP p ps 0 with
  | none =>
    simp only
    rw [findP_append]
    cases hq : findP q ps 0 with
    | none =>
      simp only [findP]
      by_cases c : q = p
      · rw [if_pos c, if_pos c]
      · rw [if_neg c, if_neg c]
    | some y =>
      have : q ≠ p := by rintro rfl; rw [hf] at hq; cases hq
      simp only
      rw [if_neg this]
  | some x =>
    obtain ⟨_, h2⟩ := findP_some (p := p) (v := x.2) (j := x.1) hf
    rw [Nat.sub_zero] at h2
    simp only
    rw [findP_set h2]
    by_cases c : q = p
    · subst c
      rw [hf]
      simp
    · rw [if_neg c]
      cases hq : findP q ps 0 with
      | none => rfl
      | some y =>
        obtain ⟨_, g2⟩ := findP_some (p := q) (v := y.2) (j := y.1) hq
        rw [Nat.sub_zero] at g2
        simp only
        rw [if_neg]
        intro e
        rw [Nat.zero_add] at e
        rw [e, h2] at g2
        injection g2 with g2
        exact c (congrArg Prod.fst g2).symm
theorem TMap.look {w : World} {r : Nat} {ps : List (Pl × Value)} (h : TMap w r ps) (x : Pl) : (Instr.lookup 102 (.map (some r)) (plV x) false).run Try.prog w = .ok (getT ps x) w := by
  obtain ⟨es, clock, hb, _, _, he⟩ := h
  have hc := fun b => t3_check b x w
  have hz : (zeroValue 40).run Try.prog w = .ok totZ w := by kernel_rfl
  have hf := t3_find (w := w) x es he
  unfold getT
  cases hm : findP x ps 0 with
  | none =>
    rw [hm] at hf
    simp [Instr.lookup, run_underlying Try.underlying102, MapKept.run_getObj_map hb, hc, hf, hz, Result.andThen]
  | some y =>
    rw [hm] at hf
    simp [Instr.lookup, run_underlying Try.underlying102, MapKept.run_getObj_map hb, hc, hf, Result.andThen]
/-- m[p] = v. -/
theorem TMap.store {w : World} {r : Nat} {ps : List (Pl × Value)} (h : TMap w r ps) (x : Pl) (v : Value) :
    ∃ w', (Instr.mapUpdate 102 (.map (some r)) (plV x) v).run Try.prog w = .ok () w' ∧ TMap w' r (putP ps x v) ∧ Fr w.heap.size [r] w w' ∧ w'.heap.size = w.heap.size := by
  have hlt := h.lt
  obtain ⟨es, clock, hb, h1, h2, he⟩ := h
  have hc := fun b => t3_check b x w
  have hf := t3_find (w := w) x es he
  have hlen : es.toList.length = ps.length := by have := congrArg List.length he; simpa using this
  unfold putP
  cases hm : findP x ps 0 with
  | none =>
    rw [hm] at hf
    refine ⟨setB w r (.map (es.push { key := plV x, val := v, born := clock }) (clock + 1)), ?_, ⟨_, _, setB_new hlt _, ?_, ?_, ?_⟩, setB_fr _ _ _, setB_size _ _ _⟩
    · simp [Instr.mapUpdate, run_underlying Try.underlying102, MapKept.run_getObj_map hb, hc, hf, MapKept.run_setObj_map _ hb, Result.andThen, setB]
    · intro y hy
      rw [Array.toList_push, List.mem_append, List.mem_singleton] at hy
      rcases hy with hy | rfl
      · have := h1 y hy; omega
      · show clock < clock + 1; omega
    · rw [Array.toList_push, List.map_append]
      refine List.nodup_append.2 ⟨h2, by simp, fun a ha c hc e1 => ?_⟩
      simp at hc
      obtain ⟨y, hy, rfl⟩ := List.mem_map.1 ha
      have := h1 y hy
      omega
    · rw [Array.toList_push, List.map_append, List.map_append, he]
      rfl
  | some y =>
    rw [hm] at hf
    obtain ⟨_, g2⟩ := findP_some (p := x) (v := y.2) (j := y.1) hm
    rw [Nat.sub_zero] at g2
    have hjl : y.1 < es.toList.length := by
      rw [hlen]
      rcases Nat.lt_or_ge y.1 ps.length with h | h
      · exact h
      · rw [List.getElem?_eq_none h] at g2; cases g2
    obtain ⟨e0, he0⟩ : ∃ e0, es.toList[y.1]? = some e0 := ⟨_, List.getElem?_eq_getElem hjl⟩
    have hkv : (e0.key, e0.val) = (plV x, y.2) := by
      have a : (es.toList.map (fun e => (e.key, e.val)))[y.1]? = some (e0.key, e0.val) := by rw [List.getElem?_map, he0]; rfl
      rw [he, List.getElem?_map, g2] at a
      simpa using a.symm
    have hk0 : e0.key = plV x := congrArg Prod.fst hkv
    have hj : es[y.1]? = some e0 := by simpa using he0
    have hml : (es.modify y.1 (fun e => { e with key := plV x, val := v })).toList = es.toList.set y.1 { e0 with key := plV x, val := v } := by
      rw [Array.toList_modify, Go.ChangeMaps.modify_eq_set _ _ _ _ he0]
    refine ⟨setB w r (.map (es.modify y.1 (fun e => { e with key := plV x, val := v })) clock), ?_, ⟨_, _, setB_new hlt _, ?_, ?_, ?_⟩, setB_fr _ _ _, setB_size _ _ _⟩
    · simp [Instr.mapUpdate, run_underlying Try.underlying102, MapKept.run_getObj_map hb, hc, hf, hj, hk0, pl_stays, MapKept.run_setObj_map _ hb, Result.andThen, setB]
    · intro z hz
      rw [hml] at hz
      rcases List.mem_or_eq_of_mem_set hz with hz | rfl
      · exact h1 z hz
      · exact h1 e0 (List.mem_of_getElem? he0)
    · rw [hml, List.map_set]
      show (List.set _ y.1 e0.born).Nodup
      rw [Go.WideElems.set_self _ _ _ (by rw [List.getElem?_map, he0]; rfl)]
      exact h2
    · rw [hml, List.map_set, List.map_set, he]
end Go.Proofs.Ytdkdhhfejbecdaa
