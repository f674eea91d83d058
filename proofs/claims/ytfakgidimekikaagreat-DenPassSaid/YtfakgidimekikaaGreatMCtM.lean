/- Texts merged into one, for the number of files a claim may have: CtM. -/
import Derived.Test.YtfakgidimekikaaGreatRows
import Derived.Test.YtfakgidimekikaaGreatMA
import Derived.MapKept
import Derived.ChangeMaps
import Derived.ChangeKeysEq
import Derived.WideKeyEntry
import Derived.Laws.StructEq
namespace Go.Proofs.YtfakgidimekikaaGreat
open Go.RowKit Go.Fb
set_option linter.unusedVariables false
/-- A place; four numbers that are kept. -/
abbrev Pk : Type := Int × Int
abbrev CV : Type := Int × Int × Int × Int
abbrev pkV (p : Pk) : Value := .agg #[.int .i64 p.1, .int .i64 p.2]
abbrev cvV (c : CV) : Value := .agg #[.int .i64 c.1, .int .i64 c.2.1, .int .i64 c.2.2.1, .int .i64 c.2.2.2]
def c0 : CV := (0, 0, 0, 0)
def updT (T : Pk → CV) (p : Pk) (c : CV) : Pk → CV := fun q => if q = p then c else T q
theorem pk_beq (x y : Pk) : (x.1 == y.1 && x.2 == y.2) = decide (x = y) := by
  obtain ⟨a, b⟩ := x
  obtain ⟨a', b'⟩ := y
  rw [Bool.eq_iff_iff]
  simp
theorem pkV_inj {p q : Pk} (h : pkV p = pkV q) : p = q := by
  obtain ⟨a, b⟩ := p
  obtain ⟨a', b'⟩ := q
  unfold pkV at h
  injection h with h
  simp only [Array.mk.injEq, List.cons.injEq, Value.int.injEq, true_and, and_true] at h
  obtain ⟨rfl, rfl⟩ := h
  rfl
set_option maxRecDepth 100000 in
theorem pk_eq (x y : Pk) (w : World) : (Op.equal 107 (pkV x) (pkV y)).run Tryz.prog w = .ok (decide (x = y)) w := by
  have h : (Op.equalIn 10000 107 (pkV x) (pkV y)).run Tryz.prog w = .ok (x.1 == y.1 && x.2 == y.2) w := by
    rw [run_equalIn_struct w 9999 107 _ _ (by kernel_rfl) (by kernel_rfl)]
    simp only [Program.fieldsOf, Tryz.underlying107]
    by_cases h1 : x.1 = y.1
    · by_cases h2 : x.2 = y.2 <;> simp [Op.eqFields, part, isAgg, run_underlying Tryz.underlying3, run_equalIn_int w 9998 3 .i64 .i64 _ _ Tryz.underlying3, h1, h2]
    · simp [Op.eqFields, part, isAgg, run_underlying Tryz.underlying3, run_equalIn_int w 9998 3 .i64 .i64 _ _ Tryz.underlying3, h1]
  rw [pk_beq] at h
  simp [Op.equal, Op.maxDepth, h]
theorem pk_check (b : Bool) (x : Pk) (w : World) : (Instr.checkKey b 10000 107 (pkV x)).run Tryz.prog w = .ok () w := by
  have hi : ∀ v : Int, (Instr.checkKey b 9999 3 (.int .i64 v)).run Tryz.prog w = .ok () w := fun v => MapKept.run_checkKey (k := .int .i64 v) Tryz.underlying3 (by simp [MapKept.IsKey]) b 9998
  rw [show (10000 : Nat) = 9999 + 1 from rfl]
  unfold Instr.checkKey
  simp [run_underlying Tryz.underlying107, Result.andThen, part, isAgg, run_underlying Tryz.underlying3, hi]
theorem pk_stays (x : Pk) (w : World) : (Instr.keyThatStays (pkV x) (pkV x)).run Tryz.prog w = .ok (pkV x) w := by
  have h : Instr.sameBits 10000 (pkV x) (pkV x) = true := by
    rw [show (10000 : Nat) = 9998 + 1 + 1 from rfl]
    simp [Instr.sameBits]
  unfold Instr.keyThatStays
  rw [if_pos h]
  rfl
/-- Where a place stands. -/
def posK (p : Pk) : List Pk → Nat → Option Nat
  | [], _ => none
  | x :: l, i => if p = x then some i else posK p l (i + 1)
theorem posK_some {p : Pk} : ∀ {K : List Pk} {i j : Nat}, posK p K i = some j → i ≤ j ∧ K[j - i]? = some p
  | [], i, j, h => by simp [posK] at h
  | x :: l, i, j, h => by
    unfold posK at h
    split at h
    · rename_i hp
      injection h with h
      subst h
      subst hp
      exact ⟨Nat.le_refl _, by simp⟩
    · obtain ⟨a, b⟩ := posK_some h
      refine ⟨by omega, ?_⟩
      rw [show j - i = (j - (i + 1)) + 1 by omega, List.getElem?_cons_succ]
      exact b
theorem posK_none {p : Pk} : ∀ {K : List Pk} {i : Nat}, posK p K i = none → p ∉ K
  | [], i, _ => by simp
  | x :: l, i, h => by
    unfold posK at h
    split at h
    · cases h
    · rename_i hp
      have := posK_none h
      simp [hp, this]
/-- The entries of the map: the keys K, each with what T keeps of it. -/
structure Ents (es : Array MapEntry) (clock : Nat) (K : List Pk) (T : Pk → CV) : Prop where
  old : ∀ x ∈ es.toList, x.born < clock
  born : (es.toList.map (·.born)).Nodup
  nd : K.Nodup
  mem : ∀ p, p ∈ K ↔ T p ≠ c0
  kv : es.toList.map (fun e => (e.key, e.val)) = K.map (fun p => (pkV p, cvV (T p)))
theorem pk_asking (T : Pk → CV) (x : Pk) (w : World) : ∀ (es : List MapEntry) (K : List Pk) (i : Nat), es.map (fun e => (e.key, e.val)) = K.map (fun p => (pkV p, cvV (T p))) → (Instr.findAsking 107 (pkV x) es i).run Tryz.prog w = .ok ((posK x K i).map fun j => (j, cvV (T x))) w
  | [], [], i, _ => by simp [Instr.findAsking, posK]
  | [], _ :: _, _, h => by simp at h
  | _ :: _, [], _, h => by simp at h
  | e :: es, y :: l, i, h => by
    simp only [List.map_cons, List.cons.injEq, Prod.mk.injEq] at h
    obtain ⟨⟨h1, h2⟩, h3⟩ := h
    have ih := pk_asking T x w es l (i + 1) h3
    have he := pk_eq x y w
    rw [← h1] at he
    unfold posK
    by_cases hxy : x = y
    · rw [decide_eq_true hxy] at he
      rw [if_pos hxy]
      subst hxy
      simp [Instr.findAsking, he, Result.andThen, h2]
    · rw [decide_eq_false hxy] at he
      rw [if_neg hxy]
      simp only [Instr.findAsking, Sem.run_bind, he, Result.andThen_ok, Bool.false_eq_true, if_false]
      exact ih
theorem pk_find {w : World} {T : Pk → CV} {K : List Pk} (x : Pk) (es : Array MapEntry) (h : es.toList.map (fun e => (e.key, e.val)) = K.map (fun p => (pkV p, cvV (T p)))) :
    (Instr.findKey 107 (pkV x) es.toList).run Tryz.prog w = .ok ((posK x K 0).map fun j => (j, cvV (T x))) w := by
  have ha := pk_asking T x w es.toList K 0 h
  cases hl : es.toList with
  | nil =>
    rw [hl] at h
    have : K = [] := by simpa using h.symm
    subst this
    simp [Instr.findKey, run_underlying Tryz.underlying107, Result.andThen, Instr.findNow, posK]
  | cons e es' =>
    rw [hl] at ha h
    cases K with
    | nil => simp at h
    | cons y l' =>
      have hk : e.key = pkV y := by simp at h; exact h.1.1
      have hn : Instr.findNow (Tryz.prog.underlying 107 |>.getD .bool) (pkV x) (e :: es') 0 = none := by
        rw [Tryz.underlying107]
        simp [Instr.findNow, hk, Instr.sameNow]
      have hrun : (Instr.findKey 107 (pkV x) (e :: es')).run Tryz.prog w = (Instr.findAsking 107 (pkV x) (e :: es') 0).run Tryz.prog w := by
        rw [Tryz.underlying107] at hn
        simp only [Option.getD_some] at hn
        simp [Instr.findKey, run_underlying Tryz.underlying107, Result.andThen, hn]
      rw [hrun]
      exact ha
/-- Block r is the map that keeps T. -/
def KMap (w : World) (r : Nat) (T : Pk → CV) : Prop := ∃ K es clock, w.heap[r]? = some (.map es clock) ∧ Ents es clock K T
def setM (w : World) (r : Nat) (o : Obj) : World := { w with heap := w.heap.setIfInBounds r o }
theorem setM_fr (w : World) (r : Nat) (o : Obj) : Fr w.heap.size [r] w (setM w r o) :=
  ⟨rfl, rfl, rfl, by simp [setM], fun k _ hk => by
    have : r ≠ k := fun e => hk (by simp [e])
    simp [setM, this]⟩
theorem setM_new {w : World} {r : Nat} (h : r < w.heap.size) (o : Obj) : (setM w r o).heap[r]? = some o := by simp [setM, h]
theorem setM_size (w : World) (r : Nat) (o : Obj) : (setM w r o).heap.size = w.heap.size := by simp [setM]
section
variable {w w' : World} {r : Nat} {T : Pk → CV}
theorem KMap.lt (h : KMap w r T) : r < w.heap.size := by
  obtain ⟨K, es, clock, hb, _⟩ := h
  rcases Nat.lt_or_ge r w.heap.size with h | h
  · exact h
  · rw [Array.getElem?_eq_none h] at hb; cases hb
theorem KMap.new (w : World) : KMap (w.alloc (.map #[] 0)) w.heap.size (fun _ => c0) := ⟨[], #[], 0, heap_alloc_new w _, by simp, by simp, List.nodup_nil, by simp, rfl⟩
theorem KMap.fr {B : Nat} {L : List Nat} (h : KMap w r T) (hf : Fr B L w w') (h1 : r < B) (h2 : r ∉ L) : KMap w' r T := by
  obtain ⟨K, es, clock, hb, he⟩ := h
  exact ⟨K, es, clock, (hf.block r h1 h2).trans hb, he⟩
theorem KMap.ne {g t : Nat} {cs : Array Value} (h : KMap w r T) (hb : Blk w g t cs) : r ≠ g := by
  rintro rfl
  obtain ⟨K, es, clock, h1, _⟩ := h
  unfold Blk at hb
  rw [h1] at hb
  cases hb
set_option maxRecDepth 100000 in
theorem KMap.look (h : KMap w r T) (x : Pk) : (Instr.lookup 99 (.map (some r)) (pkV x) false).run Tryz.prog w = .ok (cvV (T x)) w := by
  obtain ⟨K, es, clock, hb, he⟩ := h
  have hc := fun b => pk_check b x w
  have hz : (zeroValue 95).run Tryz.prog w = .ok (cvV c0) w := by kernel_rfl
  have hf := pk_find (w := w) x es he.kv
  cases hm : posK x K 0 with
  | none =>
    rw [hm] at hf
    have hT : T x = c0 := Decidable.not_not.1 fun hn => posK_none hm ((he.mem x).2 hn)
    rw [hT]
    simp [Instr.lookup, run_underlying Tryz.underlying99, MapKept.run_getObj_map hb, hc, hf, hz, Result.andThen]
  | some y =>
    rw [hm] at hf
    simp [Instr.lookup, run_underlying Tryz.underlying99, MapKept.run_getObj_map hb, hc, hf, Result.andThen]
set_option maxRecDepth 100000 in
/-- m[p] = c, c being something. -/
theorem KMap.store (h : KMap w r T) (x : Pk) (c : CV) (hc0 : c ≠ c0) :
    ∃ w', (Instr.mapUpdate 99 (.map (some r)) (pkV x) (cvV c)).run Tryz.prog w = .ok () w' ∧ KMap w' r (updT T x c) ∧ Fr w.heap.size [r] w w' ∧ w'.heap.size = w.heap.size := by
  have hlt := h.lt
  obtain ⟨K, es, clock, hb, he⟩ := h
  have hc := fun b => pk_check b x w
  have hf := pk_find (w := w) x es he.kv
  have hlen : es.toList.length = K.length := by have := congrArg List.length he.kv; simpa using this
  cases hm : posK x K 0 with
  | none =>
    rw [hm] at hf
    have hx := posK_none hm
    refine ⟨setM w r (.map (es.push { key := pkV x, val := cvV c, born := clock }) (clock + 1)), ?_, ⟨K ++ [x], _, _, setM_new hlt _, ?_, ?_, ?_, ?_, ?_⟩, setM_fr _ _ _, setM_size _ _ _⟩
    · simp [Instr.mapUpdate, run_underlying Tryz.underlying99, MapKept.run_getObj_map hb, hc, hf, MapKept.run_setObj_map _ hb, Result.andThen, setM]
    · intro y hy
      rw [Array.toList_push, List.mem_append, List.mem_singleton] at hy
      rcases hy with hy | rfl
      · have := he.old y hy; omega
      · show clock < clock + 1; omega
    · rw [Array.toList_push, List.map_append]
      refine List.nodup_append.2 ⟨he.born, by simp, fun a ha c hc e1 => ?_⟩
      simp at hc
      obtain ⟨y, hy, rfl⟩ := List.mem_map.1 ha
      have := he.old y hy
      omega
    · rw [List.nodup_append]
      exact ⟨he.nd, by simp, fun a ha b hb => by rw [List.mem_singleton] at hb; rw [hb]; exact fun e => hx (e ▸ ha)⟩
    · intro p
      unfold updT
      rw [List.mem_append, List.mem_singleton, he.mem]
      by_cases e : p = x
      · rw [if_pos e]; simp [e, hc0]
      · rw [if_neg e]; simp [e]
    · rw [Array.toList_push, List.map_append, List.map_append, he.kv]
      congr 1
      · refine List.map_congr_left fun p hp => ?_
        unfold updT
        have hne : p ≠ x := fun e => hx (e ▸ hp)
        rw [if_neg hne]
      · simp [updT]
  | some y =>
    rw [hm] at hf
    obtain ⟨_, g2⟩ := posK_some hm
    rw [Nat.sub_zero] at g2
    have hyl : y < K.length := (List.getElem?_eq_some_iff.1 g2).1
    obtain ⟨e0, he0⟩ : ∃ e0, es.toList[y]? = some e0 := ⟨_, List.getElem?_eq_getElem (by omega)⟩
    have hkv : (e0.key, e0.val) = (pkV x, cvV (T x)) := by
      have a : (es.toList.map (fun e => (e.key, e.val)))[y]? = some (e0.key, e0.val) := by rw [List.getElem?_map, he0]; rfl
      rw [he.kv, List.getElem?_map, g2] at a
      simpa using a.symm
    have hk0 : e0.key = pkV x := congrArg Prod.fst hkv
    have hj : es[y]? = some e0 := by simpa using he0
    have hml : (es.modify y (fun e => { e with key := pkV x, val := cvV c })).toList = es.toList.set y { e0 with key := pkV x, val := cvV c } := by
      rw [Array.toList_modify, Go.ChangeMaps.modify_eq_set _ _ _ _ he0]
    refine ⟨setM w r (.map (es.modify y (fun e => { e with key := pkV x, val := cvV c })) clock), ?_, ⟨K, _, _, setM_new hlt _, ?_, ?_, he.nd, ?_, ?_⟩, setM_fr _ _ _, setM_size _ _ _⟩
    · simp [Instr.mapUpdate, run_underlying Tryz.underlying99, MapKept.run_getObj_map hb, hc, hf, hj, hk0, pk_stays, MapKept.run_setObj_map _ hb, Result.andThen, setM]
    · intro z hz
      rw [hml] at hz
      rcases List.mem_or_eq_of_mem_set hz with hz | rfl
      · exact he.old z hz
      · exact he.old e0 (List.mem_of_getElem? he0)
    · rw [hml, List.map_set]
      show (List.set _ y e0.born).Nodup
      rw [Go.WideElems.set_self _ _ _ (by rw [List.getElem?_map, he0]; rfl)]
      exact he.born
    · intro p
      unfold updT
      rw [he.mem]
      by_cases e : p = x
      · rw [if_pos e]
        have := (he.mem x).1 (List.mem_of_getElem? g2)
        simp [e, hc0, this]
      · rw [if_neg e]
    · rw [hml, List.map_set, he.kv]
      refine List.ext_getElem? fun j => ?_
      rw [List.getElem?_set, List.getElem?_map, List.getElem?_map]
      by_cases hjy : y = j
      · subst hjy
        rw [if_pos rfl, List.length_map, if_pos hyl, g2]
        simp [updT]
      · rw [if_neg hjy]
        cases hp : K[j]? with
        | none => rfl
        | some p =>
          have : p ≠ x := fun e => by
            subst e
            obtain ⟨i1, e1⟩ := List.getElem?_eq_some_iff.1 g2
            obtain ⟨i2, e2⟩ := List.getElem?_eq_some_iff.1 hp
            exact hjy ((List.getElem_inj he.nd).1 (e1.trans e2.symm))
          simp [updT, this]
theorem mem_eraseIdx_nd {K : List Pk} (hn : K.Nodup) {j : Nat} {x : Pk} (hj : K[j]? = some x) (p : Pk) : p ∈ K.eraseIdx j ↔ p ∈ K ∧ p ≠ x := by
  rw [List.mem_eraseIdx_iff_getElem?]
  obtain ⟨i2, e2⟩ := List.getElem?_eq_some_iff.1 hj
  constructor
  · rintro ⟨i, hi, h⟩
    refine ⟨List.mem_of_getElem? h, fun e => ?_⟩
    subst e
    obtain ⟨i1, e1⟩ := List.getElem?_eq_some_iff.1 h
    exact hi ((List.getElem_inj hn).1 (e1.trans e2.symm))
  · rintro ⟨h, hne⟩
    obtain ⟨i, hi⟩ := List.mem_iff_getElem?.1 h
    exact ⟨i, fun e => by subst e; rw [hj] at hi; injection hi with hi; exact hne hi.symm, hi⟩
set_option maxRecDepth 100000 in
/-- delete(m, p). -/
theorem KMap.del (h : KMap w r T) (x : Pk) :
    ∃ w', (∀ ty, (Builtin.delete_ #[99, 107] ty #[.map (some r), pkV x]).run Tryz.prog w = .ok (.tuple #[]) w') ∧ KMap w' r (updT T x c0) ∧ Fr w.heap.size [r] w w' ∧ w'.heap.size = w.heap.size := by
  have hlt := h.lt
  obtain ⟨K, es, clock, hb, he⟩ := h
  have hc := fun b => pk_check b x w
  have hf := pk_find (w := w) x es he.kv
  have hlen : es.toList.length = K.length := by have := congrArg List.length he.kv; simpa using this
  cases hm : posK x K 0 with
  | none =>
    rw [hm] at hf
    have hx := posK_none hm
    have hT : T x = c0 := Decidable.not_not.1 fun hn => hx ((he.mem x).2 hn)
    have hTe : updT T x c0 = T := by
      funext q
      unfold updT
      by_cases e : q = x
      · rw [if_pos e, e, hT]
      · rw [if_neg e]
    refine ⟨setM w r (.map es clock), fun ty => ?_, ⟨K, _, _, setM_new hlt _, by rw [hTe]; exact he⟩, setM_fr _ _ _, setM_size _ _ _⟩
    simp [Builtin.delete_, run_underlying Tryz.underlying99, MapKept.run_getObj_map hb, hc, hf, MapKept.run_setObj_map _ hb, Result.andThen, setM]
  | some y =>
    rw [hm] at hf
    obtain ⟨_, g2⟩ := posK_some hm
    rw [Nat.sub_zero] at g2
    have hyl : y < K.length := (List.getElem?_eq_some_iff.1 g2).1
    have hyE : y < es.size := by rw [← Array.length_toList]; omega
    have hml : (es.eraseIdxIfInBounds y).toList = es.toList.eraseIdx y := by
      unfold Array.eraseIdxIfInBounds
      rw [dif_pos hyE, Array.toList_eraseIdx]
    refine ⟨setM w r (.map (es.eraseIdxIfInBounds y) clock), fun ty => ?_, ⟨K.eraseIdx y, _, _, setM_new hlt _, ?_, ?_, ?_, ?_, ?_⟩, setM_fr _ _ _, setM_size _ _ _⟩
    · simp [Builtin.delete_, run_underlying Tryz.underlying99, MapKept.run_getObj_map hb, hc, hf, MapKept.run_setObj_map _ hb, Result.andThen, setM]
    · intro z hz
      rw [hml] at hz
      exact he.old z ((List.eraseIdx_sublist _ _).subset hz)
    · rw [hml]
      exact he.born.sublist ((List.eraseIdx_sublist _ _).map _)
    · exact he.nd.sublist (List.eraseIdx_sublist _ _)
    · intro p
      rw [mem_eraseIdx_nd he.nd g2, he.mem]
      unfold updT
      by_cases e : p = x
      · rw [if_pos e]; simp [e]
      · rw [if_neg e]; simp [e]
    · have hme : ∀ {α β : Type} (f : α → β) (l : List α) (i : Nat), (l.eraseIdx i).map f = (l.map f).eraseIdx i := fun f l i => by
        rw [List.eraseIdx_eq_take_drop_succ, List.eraseIdx_eq_take_drop_succ, List.map_append, List.map_take, List.map_drop]
      rw [hml, hme, he.kv, ← hme]
      refine List.map_congr_left fun p hp => ?_
      have := ((mem_eraseIdx_nd he.nd g2 p).1 hp).2
      unfold updT
      rw [if_neg this]
end
end Go.Proofs.YtfakgidimekikaaGreat
