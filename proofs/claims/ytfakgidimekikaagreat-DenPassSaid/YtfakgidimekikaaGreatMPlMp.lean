/- Texts merged into one, for the number of files a claim may have: PlMap. -/
import Derived.Test.YtfakgidimekikaaGreatMLnA
import Derived.WideMake
import Derived.ChangeKeysEq
import Derived.WideKeyEntry
namespace Go.Proofs.YtfakgidimekikaaGreat
open Go.RowKit Go.Fb
/-- A place, and its value. -/
abbrev Pl : Type := Int × Int × Int
abbrev plV (p : Pl) : Value := .agg #[.int .i64 p.1, .int .i64 p.2.1, .int .i64 p.2.2]
theorem pl_beq (x y : Pl) : (x.1 == y.1 && x.2.1 == y.2.1 && x.2.2 == y.2.2) = decide (x = y) := by
  obtain ⟨a, b, c⟩ := x
  obtain ⟨a', b', c'⟩ := y
  rw [Bool.eq_iff_iff]
  simp [and_assoc]
set_option maxRecDepth 100000 in
theorem pl_eq (x y : Pl) (w : World) : (Op.equal 93 (plV x) (plV y)).run Tryz.prog w = .ok (decide (x = y)) w := by
  have h : (Op.equalIn 10000 93 (plV x) (plV y)).run Tryz.prog w = .ok (x.1 == y.1 && x.2.1 == y.2.1 && x.2.2 == y.2.2) w := by
    rw [run_equalIn_struct w 9999 93 _ _ (by kernel_rfl) (by kernel_rfl)]
    simp only [Program.fieldsOf, Tryz.underlying93]
    by_cases h1 : x.1 = y.1
    · by_cases h2 : x.2.1 = y.2.1
      · by_cases h3 : x.2.2 = y.2.2 <;> simp [Op.eqFields, part, isAgg, run_underlying Tryz.underlying3, run_equalIn_int w 9998 3 .i64 .i64 _ _ Tryz.underlying3, h1, h2, h3]
      · simp [Op.eqFields, part, isAgg, run_underlying Tryz.underlying3, run_equalIn_int w 9998 3 .i64 .i64 _ _ Tryz.underlying3, h1, h2]
    · simp [Op.eqFields, part, isAgg, run_underlying Tryz.underlying3, run_equalIn_int w 9998 3 .i64 .i64 _ _ Tryz.underlying3, h1]
  rw [pl_beq] at h
  simp [Op.equal, Op.maxDepth, h]
theorem pl_check (b : Bool) (x : Pl) (w : World) : (Instr.checkKey b 10000 93 (plV x)).run Tryz.prog w = .ok () w := by
  have hi : ∀ v : Int, (Instr.checkKey b 9999 3 (.int .i64 v)).run Tryz.prog w = .ok () w := fun v => MapKept.run_checkKey (k := .int .i64 v) Tryz.underlying3 (by simp [MapKept.IsKey]) b 9998
  rw [show (10000 : Nat) = 9999 + 1 from rfl]
  unfold Instr.checkKey
  simp [run_underlying Tryz.underlying93, Result.andThen, part, isAgg, run_underlying Tryz.underlying3, hi]
theorem pl_stays (x : Pl) (w : World) : (Instr.keyThatStays (plV x) (plV x)).run Tryz.prog w = .ok (plV x) w := by
  have h : Instr.sameBits 10000 (plV x) (plV x) = true := by
    rw [show (10000 : Nat) = 9998 + 1 + 1 from rfl]
    simp [Instr.sameBits]
  unfold Instr.keyThatStays
  rw [if_pos h]
  rfl
/-- What is kept of a place, and where; the list with a place's value laid anew. -/
def findP (p : Pl) : List (Pl × Value) → Nat → Option (Nat × Value)
  | [], _ => none
  | x :: l, i => if p = x.1 then some (i, x.2) else findP p l (i + 1)
def getP (ps : List (Pl × Value)) (p : Pl) : Value := match findP p ps 0 with
  | none => .slice none 0 0
  | some x => x.2
def putP (ps : List (Pl × Value)) (p : Pl) (v : Value) : List (Pl × Value) := match findP p ps 0 with
  | none => ps ++ [(p, v)]
  | some x => ps.set x.1 (p, v)
theorem findP_some {p : Pl} : ∀ {ps : List (Pl × Value)} {i j : Nat} {v : Value}, findP p ps i = some (j, v) → i ≤ j ∧ ps[j - i]? = some (p, v)
  | [], i, j, v, h => by simp [findP] at h
  | x :: l, i, j, v, h => by
    unfold findP at h
    split at h
    · rename_i hp
      simp only [Option.some.injEq, Prod.mk.injEq] at h
      obtain ⟨rfl, rfl⟩ := h
      subst hp
      exact ⟨Nat.le_refl _, by simp⟩
    · obtain ⟨a, b⟩ := findP_some h
      refine ⟨by omega, ?_⟩
      rw [show j - i = (j - (i + 1)) + 1 by omega, List.getElem?_cons_succ]
      exact b
theorem findP_append {p : Pl} : ∀ {ps qs : List (Pl × Value)} {i : Nat}, findP p (ps ++ qs) i = match findP p ps i with
    | none => findP p qs (i + ps.length)
    | some x => some x
  | [], qs, i => by simp [findP]
  | x :: l, qs, i => by
    rw [List.cons_append, findP, findP]
    split
    · rfl
    · rw [findP_append, List.length_cons]
      rw [show i + 1 + l.length = i + (l.length + 1) by omega]
theorem findP_set {p q : Pl} {v : Value} : ∀ {ps : List (Pl × Value)} {i k : Nat} {u : Value}, ps[k]? = some (p, u) → findP q (ps.set k (p, v)) i = match findP q ps i with
    | none => none
    | some x => some (x.1, if x.1 = i + k then v else x.2)
  | [], i, k, u, h => by simp at h
  | x :: l, i, 0, u, h => by
    simp at h
    subst h
    rw [List.set_cons_zero]
    unfold findP
    by_cases c : q = p
    · rw [if_pos c, if_pos c]
      simp
    · rw [if_neg c, if_neg c]
      cases hf : findP q l (i + 1) with
      | none => rfl
      | some y =>
        have := (findP_some (p := q) (v := y.2) (j := y.1) hf).1
        simp only
        rw [if_neg (by omega)]
  | x :: l, i, k + 1, u, h => by
    rw [List.set_cons_succ]
    unfold findP
    by_cases c : q = x.1
    · rw [if_pos c, if_pos c]
      simp
    · rw [if_neg c, if_neg c, findP_set (i := i + 1) (k := k) (by simpa using h)]
      rw [show i + 1 + k = i + (k + 1) by omega]
theorem getP_put (ps : List (Pl × Value)) (p q : Pl) (v : Value) : getP (putP ps p v) q = if q = p then v else getP ps q := by
  unfold getP putP
  cases hf : findP p ps 0 with
  | none =>
    simp only
    rw [findP_append]
    cases hq : findP q ps 0 with
    | none =>
      simp only [findP]
      by_cases c : q = p
      · rw [if_pos c, if_pos c]
      · rw [if_neg c, if_neg c]
    | some y =>
      have : q ≠ p := by rintro rfl; rw [hf] at hq; cases hq
      simp only
      rw [if_neg this]
  | some x =>
    obtain ⟨_, h2⟩ := findP_some (p := p) (v := x.2) (j := x.1) hf
    rw [Nat.sub_zero] at h2
    simp only
    rw [findP_set h2]
    by_cases c : q = p
    · subst c
      rw [hf]
      simp
    · rw [if_neg c]
      cases hq : findP q ps 0 with
      | none => rfl
      | some y =>
        obtain ⟨_, g2⟩ := findP_some (p := q) (v := y.2) (j := y.1) hq
        rw [Nat.sub_zero] at g2
        simp only
        rw [if_neg]
        intro e
        rw [Nat.zero_add] at e
        rw [e, h2] at g2
        injection g2 with g2
        exact c (congrArg Prod.fst g2).symm
/-- Block r is the map that keeps ps. -/
def PMap (w : World) (r : Nat) (ps : List (Pl × Value)) : Prop :=
  ∃ es clock, w.heap[r]? = some (.map es clock) ∧ (∀ x ∈ es.toList, x.born < clock) ∧ (es.toList.map (·.born)).Nodup ∧ es.toList.map (fun e => (e.key, e.val)) = ps.map (fun x => (plV x.1, x.2))
theorem pl_asking (x : Pl) (w : World) : ∀ (es : List MapEntry) (ps : List (Pl × Value)) (i : Nat), es.map (fun e => (e.key, e.val)) = ps.map (fun y => (plV y.1, y.2)) → (Instr.findAsking 93 (plV x) es i).run Tryz.prog w = .ok (findP x ps i) w
  | [], [], i, _ => by simp [Instr.findAsking, findP]
  | [], _ :: _, _, h => by simp at h
  | _ :: _, [], _, h => by simp at h
  | e :: es, y :: l, i, h => by
    simp only [List.map_cons, List.cons.injEq, Prod.mk.injEq] at h
    obtain ⟨⟨h1, h2⟩, h3⟩ := h
    have ih := pl_asking x w es l (i + 1) h3
    have he := pl_eq x y.1 w
    rw [← h1] at he
    unfold findP
    by_cases hxy : x = y.1
    · rw [decide_eq_true hxy] at he
      rw [if_pos hxy]
      simp [Instr.findAsking, he, Result.andThen, h2]
    · rw [decide_eq_false hxy] at he
      rw [if_neg hxy]
      simp only [Instr.findAsking, Sem.run_bind, he, Result.andThen_ok, Bool.false_eq_true, if_false]
      exact ih
theorem pl_find {w : World} {ps : List (Pl × Value)} (x : Pl) (es : Array MapEntry) (h : es.toList.map (fun e => (e.key, e.val)) = ps.map (fun y => (plV y.1, y.2))) :
    (Instr.findKey 93 (plV x) es.toList).run Tryz.prog w = .ok (findP x ps 0) w := by
  have ha := pl_asking x w es.toList ps 0 h
  cases hl : es.toList with
  | nil =>
    rw [hl] at h
    have : ps = [] := by simpa using h.symm
    subst this
    simp [Instr.findKey, run_underlying Tryz.underlying93, Result.andThen, Instr.findNow, findP]
  | cons e es' =>
    rw [hl] at ha h
    cases ps with
    | nil => simp at h
    | cons y l' =>
      have hk : e.key = plV y.1 := by simp at h; exact h.1.1
      have hn : Instr.findNow (Tryz.prog.underlying 93 |>.getD .bool) (plV x) (e :: es') 0 = none := by
        rw [Tryz.underlying93]
        simp [Instr.findNow, hk, Instr.sameNow]
      have hrun : (Instr.findKey 93 (plV x) (e :: es')).run Tryz.prog w = (Instr.findAsking 93 (plV x) (e :: es') 0).run Tryz.prog w := by
        rw [Tryz.underlying93] at hn
        simp only [Option.getD_some] at hn
        simp [Instr.findKey, run_underlying Tryz.underlying93, Result.andThen, hn]
      rw [hrun]
      exact ha
theorem PMap.lt {w : World} {r : Nat} {ps : List (Pl × Value)} (h : PMap w r ps) : r < w.heap.size := by
  obtain ⟨es, clock, hb, _⟩ := h
  rcases Nat.lt_or_ge r w.heap.size with h | h
  · exact h
  · rw [Array.getElem?_eq_none h] at hb; cases hb
theorem PMap.new (w : World) : PMap (w.alloc (.map #[] 0)) w.heap.size [] := ⟨#[], 0, heap_alloc_new w _, by simp, by simp, rfl⟩
theorem PMap.fr {w w' : World} {r B : Nat} {L : List Nat} {ps : List (Pl × Value)} (h : PMap w r ps) (hf : Fr B L w w') (h1 : r < B) (h2 : r ∉ L) : PMap w' r ps := by
  obtain ⟨es, clock, hb, he⟩ := h
  exact ⟨es, clock, (hf.block r h1 h2).trans hb, he⟩
theorem PMap.ne {w : World} {r g t : Nat} {ps : List (Pl × Value)} {cs : Array Value} (h : PMap w r ps) (hb : Blk w g t cs) : r ≠ g := by
  rintro rfl
  obtain ⟨es, clock, h1, _⟩ := h
  unfold Blk at hb
  rw [h1] at hb
  cases hb
theorem PMap.ne_own {w : World} {r : Nat} {ps : List (Pl × Value)} {base e size n : Nat} {v : Value} {xs : List Value} (h : PMap w r ps) (ho : w.ownsRow base e size v n xs) : some r ≠ v.ownBlock := by
  intro he
  rcases ho.2 with ⟨rfl, _⟩ | ⟨g', cap, cur, rfl, _, hgg, _⟩
  · cases he
  · have he' : r = g' := by simpa [Value.ownBlock] using he
    subst he'
    obtain ⟨es, clock, h1, _⟩ := h
    rw [h1] at hgg
    cases hgg
theorem PMap.look {w : World} {r : Nat} {ps : List (Pl × Value)} (h : PMap w r ps) (x : Pl) : (Instr.lookup 90 (.map (some r)) (plV x) false).run Tryz.prog w = .ok (getP ps x) w := by
  obtain ⟨es, clock, hb, _, _, he⟩ := h
  have hc := fun b => pl_check b x w
  have hz : (zeroValue 30).run Tryz.prog w = .ok (.slice none 0 0) w := by kernel_rfl
  have hf := pl_find (w := w) x es he
  unfold getP
  cases hm : findP x ps 0 with
  | none =>
    rw [hm] at hf
    simp [Instr.lookup, run_underlying Tryz.underlying90, MapKept.run_getObj_map hb, hc, hf, hz, Result.andThen]
  | some y =>
    rw [hm] at hf
    simp [Instr.lookup, run_underlying Tryz.underlying90, MapKept.run_getObj_map hb, hc, hf, Result.andThen]
/-- The world with one block laid anew. -/
def setB (w : World) (r : Nat) (o : Obj) : World := { w with heap := w.heap.setIfInBounds r o }
theorem setB_fr (w : World) (r : Nat) (o : Obj) : Fr w.heap.size [r] w (setB w r o) :=
  ⟨rfl, rfl, rfl, by simp [setB], fun k _ hk => by
    have : r ≠ k := fun h => hk (by simp [h])
    simp [setB, this]⟩
theorem setB_new {w : World} {r : Nat} (h : r < w.heap.size) (o : Obj) : (setB w r o).heap[r]? = some o := by simp [setB, h]
theorem setB_size (w : World) (r : Nat) (o : Obj) : (setB w r o).heap.size = w.heap.size := by simp [setB]
/-- m[p] = f(m[p]): what is got, and what the store makes, whatever lies between. -/
theorem PMap.entry {w : World} {r : Nat} {ps : List (Pl × Value)} (h : PMap w r ps) (x : Pl) :
    ∃ (st : Int) (w1 : World), (Instr.mapEntry 90 (.map (some r)) (plV x)).run Tryz.prog w = .ok (.tuple #[getP ps x, .int .i64 st]) w1 ∧ Fr w.heap.size [r] w w1 ∧ w1.heap.size = w.heap.size ∧
      ∀ (w2 : World) (v : Value), w2.heap[r]? = w1.heap[r]? → ∃ w3, (Instr.entryStore 90 (.map (some r)) (.int .i64 st) v).run Tryz.prog w2 = .ok () w3 ∧ PMap w3 r (putP ps x v) ∧ Fr w2.heap.size [r] w2 w3 ∧ w3.heap.size = w2.heap.size := by
  have hlt := h.lt
  obtain ⟨es, clock, hb, h1, h2, he⟩ := h
  have hc := fun b => pl_check b x w
  have hz : ∀ u, (zeroValue 30).run Tryz.prog u = .ok (.slice none 0 0) u := fun u => by kernel_rfl
  have hf := pl_find (w := w) x es he
  have hlen : es.toList.length = ps.length := by have := congrArg List.length he; simpa using this
  unfold getP putP
  cases hm : findP x ps 0 with
  | none =>
    rw [hm] at hf
    refine ⟨clock, setB w r (.map (es.push { key := plV x, val := .slice none 0 0, born := clock }) (clock + 1)), ?_, setB_fr _ _ _, setB_size _ _ _, fun w2 v hw2 => ?_⟩
    · simp [Instr.mapEntry, run_underlying Tryz.underlying90, MapKept.run_getObj_map hb, hc, hf, hz, MapKept.run_setObj_map _ hb, Result.andThen, setB, goInt]
    · rw [setB_new hlt] at hw2
      have hlt2 : r < w2.heap.size := by
        rcases Nat.lt_or_ge r w2.heap.size with h | h
        · exact h
        · rw [Array.getElem?_eq_none h] at hw2; cases hw2
      have hidx : (es.push ⟨plV x, .slice none 0 0, clock⟩).findIdx? (fun e => ((e.born : Nat) : Int) == ((clock : Nat) : Int)) = some es.size := by
        rw [Go.WideElems.findIdx_arr]
        have := Go.WideElems.findIdx_born (l := (es.push ⟨plV x, .slice none 0 0, clock⟩).toList) (j := es.size) (e0 := ⟨plV x, .slice none 0 0, clock⟩) (by
          simp only [Array.toList_push, List.map_append, List.map_cons, List.map_nil]
          refine List.nodup_append.2 ⟨h2, by simp, fun a ha c hc e1 => ?_⟩
          simp only [List.mem_singleton] at hc
          obtain ⟨y, hy, rfl⟩ := List.mem_map.1 ha
          have := h1 y hy
          omega) (by simp)
        exact this
      have hmod : (es.push ⟨plV x, .slice none 0 0, clock⟩).modify es.size (fun e => { e with val := v }) = es.push ⟨plV x, v, clock⟩ := by
        apply Array.ext'
        rw [Array.toList_modify, Array.toList_push, Array.toList_push, ← Array.length_toList, Go.WideElems.modify_last]
      refine ⟨setB w2 r (.map (es.push ⟨plV x, v, clock⟩) (clock + 1)), ?_, ⟨_, _, setB_new hlt2 _, ?_, ?_, ?_⟩, setB_fr _ _ _, setB_size _ _ _⟩
      · simp [Instr.entryStore, MapKept.run_getObj_map hw2, asInt, asIntOf, hidx, hmod, MapKept.run_setObj_map _ hw2, Result.andThen, setB]
      · intro y hy
        rw [Array.toList_push, List.mem_append, List.mem_singleton] at hy
        rcases hy with hy | rfl
        · have := h1 y hy; omega
        · show clock < clock + 1; omega
      · rw [Array.toList_push, List.map_append]
        refine List.nodup_append.2 ⟨h2, by simp, fun a ha c hc e1 => ?_⟩
        simp at hc
        obtain ⟨y, hy, rfl⟩ := List.mem_map.1 ha
        have := h1 y hy
        omega
      · rw [Array.toList_push, List.map_append, List.map_append, he]
        rfl
  | some y =>
    rw [hm] at hf
    obtain ⟨_, g2⟩ := findP_some (p := x) (v := y.2) (j := y.1) hm
    rw [Nat.sub_zero] at g2
    have hjl : y.1 < es.toList.length := by
      rw [hlen]
      rcases Nat.lt_or_ge y.1 ps.length with h | h
      · exact h
      · rw [List.getElem?_eq_none h] at g2; cases g2
    obtain ⟨e0, he0⟩ : ∃ e0, es.toList[y.1]? = some e0 := ⟨_, List.getElem?_eq_getElem hjl⟩
    have hkv : (e0.key, e0.val) = (plV x, y.2) := by
      have a : (es.toList.map (fun e => (e.key, e.val)))[y.1]? = some (e0.key, e0.val) := by rw [List.getElem?_map, he0]; rfl
      rw [he, List.getElem?_map, g2] at a
      simpa using a.symm
    have hk0 : e0.key = plV x := congrArg Prod.fst hkv
    have hj : es[y.1]? = some e0 := by simpa using he0
    have hsame : es.modify y.1 (fun e => { e with key := plV x }) = es := by
      apply Array.ext'
      rw [Array.toList_modify, Go.ChangeMaps.modify_eq_set _ _ _ _ he0]
      have : ({ e0 with key := plV x } : MapEntry) = e0 := by rw [← hk0]
      rw [this]
      exact Go.WideElems.set_self _ _ _ he0
    refine ⟨e0.born, setB w r (.map es clock), ?_, setB_fr _ _ _, setB_size _ _ _, fun w2 v hw2 => ?_⟩
    · simp [Instr.mapEntry, run_underlying Tryz.underlying90, MapKept.run_getObj_map hb, hc, hf, hj, hk0, pl_stays, hsame, MapKept.run_setObj_map _ hb, Result.andThen, setB, goInt]
    · rw [setB_new hlt] at hw2
      have hlt2 : r < w2.heap.size := by
        rcases Nat.lt_or_ge r w2.heap.size with h | h
        · exact h
        · rw [Array.getElem?_eq_none h] at hw2; cases hw2
      have hidx : es.findIdx? (fun e => ((e.born : Nat) : Int) == ((e0.born : Nat) : Int)) = some y.1 := by
        rw [Go.WideElems.findIdx_arr]
        exact Go.WideElems.findIdx_born h2 he0
      have hml : (es.modify y.1 (fun e => { e with val := v })).toList = es.toList.set y.1 { e0 with val := v } := by
        rw [Array.toList_modify, Go.ChangeMaps.modify_eq_set _ _ _ _ he0]
      refine ⟨setB w2 r (.map (es.modify y.1 (fun e => { e with val := v })) clock), ?_, ⟨_, _, setB_new hlt2 _, ?_, ?_, ?_⟩, setB_fr _ _ _, setB_size _ _ _⟩
      · simp [Instr.entryStore, MapKept.run_getObj_map hw2, asInt, asIntOf, hidx, MapKept.run_setObj_map _ hw2, Result.andThen, setB]
      · intro z hz
        rw [hml] at hz
        rcases List.mem_or_eq_of_mem_set hz with hz | rfl
        · exact h1 z hz
        · exact h1 e0 (List.mem_of_getElem? he0)
      · rw [hml, List.map_set]
        show (List.set _ y.1 e0.born).Nodup
        rw [Go.WideElems.set_self _ _ _ (by rw [List.getElem?_map, he0]; rfl)]
        exact h2
      · rw [hml, List.map_set, List.map_set, he, hk0]
end Go.Proofs.YtfakgidimekikaaGreat
