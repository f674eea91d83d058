/- Texts merged into one, for the number of files a claim may have: IMap. -/
import Derived.Test.YtfakgidimekikaaGreatRows
import Derived.Test.YtfakgidimekikaaGreatMA
import Derived.MapKept
import Derived.ChangeMaps
import Derived.WideKeyEntry
namespace Go.Proofs.YtfakgidimekikaaGreat
open Go.RowKit Go.Fb
set_option linter.unusedVariables false
def dV : Value := .bool false
def pzI (p : Int) : List Int → Nat → Option Nat
  | [], _ => none
  | x :: l, i => if p = x then some i else pzI p l (i + 1)
theorem pzI_some {p : Int} : ∀ {K : List Int} {i j : Nat}, pzI p K i = some j → i ≤ j ∧ K[j - i]? = some p
  | [], i, j, h => by simp [pzI] at h
  | x :: l, i, j, h => by
    unfold pzI at h
    split at h
    · rename_i hp
      injection h with h
      subst h
      subst hp
      exact ⟨Nat.le_refl _, by simp⟩
    · obtain ⟨a, b⟩ := pzI_some h
      refine ⟨by omega, ?_⟩
      rw [show j - i = (j - (i + 1)) + 1 by omega, List.getElem?_cons_succ]
      exact b
theorem pzI_none {p : Int} : ∀ {K : List Int} {i : Nat}, pzI p K i = none → p ∉ K
  | [], _, _ => by simp
  | x :: l, i, h => by
    unfold pzI at h
    split at h
    · cases h
    · rename_i hp
      rw [List.mem_cons]
      rintro (e | e)
      · exact hp e
      · exact pzI_none h e
structure IEs (es : Array MapEntry) (clock : Nat) (K : List Int) (T : Int → Option Value) : Prop where
  old : ∀ x ∈ es.toList, x.born < clock
  born : (es.toList.map (·.born)).Nodup
  nd : K.Nodup
  mem : ∀ p, p ∈ K ↔ T p ≠ none
  kv : es.toList.map (fun e => (e.key, e.val)) = K.map (fun p => (Value.int .i64 p, (T p).getD dV))
theorem inow (T : Int → Option Value) (x : Int) : ∀ (es : List MapEntry) (K : List Int) (i : Nat), es.map (fun e => (e.key, e.val)) = K.map (fun p => (Value.int .i64 p, (T p).getD dV)) →
    Instr.findNow (.int .i64) (.int .i64 x) es i = some (match pzI x K i with | none => none | some j => some (j, (T x).getD dV))
  | [], [], _, _ => rfl
  | [], _ :: _, _, h => by simp at h
  | e :: es, [], _, h => by simp at h
  | e :: es, k :: ks, i, h => by
    simp only [List.map_cons, List.cons.injEq, Prod.mk.injEq] at h
    obtain ⟨⟨h1, h2⟩, h3⟩ := h
    unfold pzI
    by_cases c : x = k
    · rw [if_pos c]
      subst c
      simp [Instr.findNow, h1, Instr.sameNow, h2]
    · rw [if_neg c]
      have hc : (x == k) = false := by rw [beq_eq_false_iff_ne]; exact c
      simp [Instr.findNow, h1, Instr.sameNow, hc, inow T x es ks (i + 1) h3]
def IMap (w : World) (r : Nat) (T : Int → Option Value) : Prop := ∃ K es clock, w.heap[r]? = some (.map es clock) ∧ IEs es clock K T
def setI (w : World) (r : Nat) (o : Obj) : World := { w with heap := w.heap.setIfInBounds r o }
theorem setI_fr (w : World) (r : Nat) (o : Obj) : Fr w.heap.size [r] w (setI w r o) :=
  ⟨rfl, rfl, rfl, by simp [setI], fun k _ hk => by
    have : r ≠ k := fun h => hk (by simp [h])
    simp [setI, this]⟩
theorem setI_new {w : World} {r : Nat} (h : r < w.heap.size) (o : Obj) : (setI w r o).heap[r]? = some o := by simp [setI, h]
theorem setI_size (w : World) (r : Nat) (o : Obj) : (setI w r o).heap.size = w.heap.size := by simp [setI]
def updI (T : Int → Option Value) (x : Int) (v : Value) : Int → Option Value := fun q => if q = x then some v else T q
section
variable {w w' : World} {r : Nat} {T : Int → Option Value}
theorem IMap.lt (h : IMap w r T) : r < w.heap.size := by
  obtain ⟨K, es, clock, hb, _⟩ := h
  rcases Nat.lt_or_ge r w.heap.size with h | h
  · exact h
  · rw [Array.getElem?_eq_none h] at hb; cases hb
theorem IMap.new (w : World) : IMap (w.alloc (.map #[] 0)) w.heap.size (fun _ => none) := ⟨[], #[], 0, heap_alloc_new w _, by simp, by simp, List.nodup_nil, by simp, rfl⟩
theorem IMap.fr {B : Nat} {L : List Nat} (h : IMap w r T) (hf : Fr B L w w') (h1 : r < B) (h2 : r ∉ L) : IMap w' r T := by
  obtain ⟨K, es, clock, hb, he⟩ := h
  exact ⟨K, es, clock, (hf.block r h1 h2).trans hb, he⟩
theorem IMap.ne {g t : Nat} {cs : Array Value} (h : IMap w r T) (hb : Blk w g t cs) : r ≠ g := by
  rintro rfl
  obtain ⟨K, es, clock, h1, _⟩ := h
  unfold Blk at hb
  rw [h1] at hb
  cases hb
theorem IMap.ne_own {base e size n : Nat} {v : Value} {xs : List Value} (h : IMap w r T) (ho : w.ownsRow base e size v n xs) : some r ≠ v.ownBlock := by
  intro he
  rcases ho.2 with ⟨rfl, _⟩ | ⟨g', cap, cur, rfl, _, hgg, _⟩
  · cases he
  · have he' : r = g' := by simpa [Value.ownBlock] using he
    subst he'
    obtain ⟨K, es, clock, h1, _⟩ := h
    rw [h1] at hgg
    cases hgg
theorem ikey (b : Bool) (x : Int) (w : World) : (Instr.checkKey b 10000 3 (.int .i64 x)).run Tryz.prog w = .ok () w :=
  MapKept.run_checkKey (k := .int .i64 x) Tryz.underlying3 (by simp [MapKept.IsKey]) b 9999
theorem istays (x : Int) (w : World) : (Instr.keyThatStays (.int .i64 x) (.int .i64 x)).run Tryz.prog w = .ok (.int .i64 x) w := by
  have h : Instr.sameBits 10000 (.int .i64 x) (.int .i64 x) = true := by
    rw [show (10000 : Nat) = 9999 + 1 from rfl]
    simp [Instr.sameBits]
  unfold Instr.keyThatStays
  rw [if_pos h]
  rfl
theorem IMap.look {mt vt : TypeId} {z : Value} (hu : Tryz.prog.underlying mt = some (TypeDesc.map 3 vt)) (hz : ∀ u, (zeroValue vt).run Tryz.prog u = .ok z u) (h : IMap w r T) (x : Int) :
    (Instr.lookup mt (.map (some r)) (.int .i64 x) false).run Tryz.prog w = .ok ((T x).getD z) w := by
  obtain ⟨K, es, clock, hb, he⟩ := h
  have hc := fun b => ikey b x w
  have hf := MapKept.run_findKey (P := Tryz.prog) (w := w) Tryz.underlying3 (inow T x es.toList K 0 he.kv)
  cases hm : pzI x K 0 with
  | none =>
    rw [hm] at hf
    have hx := pzI_none hm
    have hT : T x = none := Classical.byContradiction fun c => hx ((he.mem x).2 c)
    rw [hT]
    simp [Instr.lookup, run_underlying hu, MapKept.run_getObj_map hb, hc, hf, hz, Result.andThen]
  | some y =>
    rw [hm] at hf
    obtain ⟨_, g2⟩ := pzI_some hm
    have hT := (he.mem x).1 (List.mem_of_getElem? g2)
    obtain ⟨v, hv⟩ := Option.ne_none_iff_exists'.1 hT
    rw [hv] at hf ⊢
    simp [Instr.lookup, run_underlying hu, MapKept.run_getObj_map hb, hc, hf, Result.andThen]
theorem ies_push {es : Array MapEntry} {clock : Nat} {K : List Int} {T : Int → Option Value} (he : IEs es clock K T) {x : Int} (hx : x ∉ K) (v : Value) : IEs (es.push { key := .int .i64 x, val := v, born := clock }) (clock + 1) (K ++ [x]) (updI T x v) := by
  refine ⟨?_, ?_, ?_, ?_, ?_⟩
  · intro y hy
    rw [Array.toList_push, List.mem_append, List.mem_singleton] at hy
    rcases hy with hy | rfl
    · have := he.old y hy; omega
    · show clock < clock + 1; omega
  · rw [Array.toList_push, List.map_append]
    refine List.nodup_append.2 ⟨he.born, by simp, fun a ha c hc e1 => ?_⟩
    simp at hc
    obtain ⟨y, hy, rfl⟩ := List.mem_map.1 ha
    have := he.old y hy
    omega
  · rw [List.nodup_append]
    exact ⟨he.nd, by simp, fun a ha b hb => by rw [List.mem_singleton] at hb; rw [hb]; exact fun e => hx (e ▸ ha)⟩
  · intro p
    unfold updI
    rw [List.mem_append, List.mem_singleton, he.mem]
    by_cases e : p = x
    · rw [if_pos e]; simp [e]
    · rw [if_neg e]; simp [e]
  · rw [Array.toList_push, List.map_append, List.map_append, he.kv]
    congr 1
    · refine List.map_congr_left fun p hp => ?_
      unfold updI
      have hne : p ≠ x := fun e => hx (e ▸ hp)
      rw [if_neg hne]
    · simp [updI]
theorem ies_set {es : Array MapEntry} {clock : Nat} {K : List Int} {T : Int → Option Value} (he : IEs es clock K T) {x : Int} {y : Nat} {e0 : MapEntry} (g2 : K[y]? = some x) (he0 : es.toList[y]? = some e0) (hk0 : e0.key = .int .i64 x) (v : Value) {es' : Array MapEntry} (hml : es'.toList = es.toList.set y { e0 with val := v }) : IEs es' clock K (updI T x v) := by
  have hyl : y < K.length := (List.getElem?_eq_some_iff.1 g2).1
  refine ⟨?_, ?_, he.nd, ?_, ?_⟩
  · intro z hz
    rw [hml] at hz
    rcases List.mem_or_eq_of_mem_set hz with hz | rfl
    · exact he.old z hz
    · exact he.old e0 (List.mem_of_getElem? he0)
  · rw [hml, List.map_set]
    show (List.set _ y e0.born).Nodup
    rw [Go.WideElems.set_self _ _ _ (by rw [List.getElem?_map, he0]; rfl)]
    exact he.born
  · intro p
    unfold updI
    rw [he.mem]
    by_cases e : p = x
    · rw [if_pos e]
      have := (he.mem x).1 (List.mem_of_getElem? g2)
      simp [e, this]
    · rw [if_neg e]
  · rw [hml, List.map_set, he.kv]
    refine List.ext_getElem? fun j => ?_
    rw [List.getElem?_set, List.getElem?_map, List.getElem?_map]
    by_cases hjy : y = j
    · subst hjy
      rw [if_pos rfl, List.length_map, if_pos hyl, g2]
      simp [updI, hk0]
    · rw [if_neg hjy]
      cases hp : K[j]? with
      | none => rfl
      | some p =>
        have : p ≠ x := fun e => by
          subst e
          obtain ⟨i1, e1⟩ := List.getElem?_eq_some_iff.1 g2
          obtain ⟨i2, e2⟩ := List.getElem?_eq_some_iff.1 hp
          exact hjy ((List.getElem_inj he.nd).1 (e1.trans e2.symm))
        simp [updI, this]
theorem ies_at {es : Array MapEntry} {clock : Nat} {K : List Int} {T : Int → Option Value} (he : IEs es clock K T) {x : Int} {y : Nat} (hm : pzI x K 0 = some y) : ∃ e0, es.toList[y]? = some e0 ∧ K[y]? = some x ∧ e0.key = .int .i64 x ∧ e0.val = (T x).getD dV := by
  obtain ⟨_, g2⟩ := pzI_some hm
  rw [Nat.sub_zero] at g2
  have hlen : es.toList.length = K.length := by have := congrArg List.length he.kv; simpa using this
  have hyl : y < K.length := (List.getElem?_eq_some_iff.1 g2).1
  obtain ⟨e0, he0⟩ : ∃ e0, es.toList[y]? = some e0 := ⟨_, List.getElem?_eq_getElem (by omega)⟩
  have a : (es.toList.map (fun e => (e.key, e.val)))[y]? = some (e0.key, e0.val) := by rw [List.getElem?_map, he0]; rfl
  rw [he.kv, List.getElem?_map, g2] at a
  have hkv : (e0.key, e0.val) = (Value.int .i64 x, (T x).getD dV) := by simpa using a.symm
  exact ⟨e0, he0, g2, congrArg Prod.fst hkv, congrArg Prod.snd hkv⟩
theorem IMap.upd {mt vt : TypeId} (hu : Tryz.prog.underlying mt = some (TypeDesc.map 3 vt)) (h : IMap w r T) (x : Int) (v : Value) :
    ∃ w', (Instr.mapUpdate mt (.map (some r)) (.int .i64 x) v).run Tryz.prog w = .ok () w' ∧ IMap w' r (updI T x v) ∧ Fr w.heap.size [r] w w' ∧ w'.heap.size = w.heap.size := by
  have hlt := h.lt
  obtain ⟨K, es, clock, hb, he⟩ := h
  have hc := fun b => ikey b x w
  have hf := MapKept.run_findKey (P := Tryz.prog) (w := w) Tryz.underlying3 (inow T x es.toList K 0 he.kv)
  cases hm : pzI x K 0 with
  | none =>
    rw [hm] at hf
    refine ⟨setI w r (.map (es.push { key := .int .i64 x, val := v, born := clock }) (clock + 1)), ?_, ⟨K ++ [x], _, _, setI_new hlt _, ies_push he (pzI_none hm) v⟩, setI_fr _ _ _, setI_size _ _ _⟩
    simp [Instr.mapUpdate, run_underlying hu, MapKept.run_getObj_map hb, hc, hf, MapKept.run_setObj_map _ hb, Result.andThen, setI]
  | some y =>
    rw [hm] at hf
    obtain ⟨e0, he0, g2, hk0, hv0⟩ := ies_at he hm
    have hj : es[y]? = some e0 := by simpa using he0
    have hml : (es.modify y (fun e => { e with key := .int .i64 x, val := v })).toList = es.toList.set y { e0 with val := v } := by
      rw [Array.toList_modify, Go.ChangeMaps.modify_eq_set _ _ _ _ he0, ← hk0]
    refine ⟨setI w r (.map (es.modify y (fun e => { e with key := .int .i64 x, val := v })) clock), ?_, ⟨K, _, _, setI_new hlt _, ies_set he g2 he0 hk0 v hml⟩, setI_fr _ _ _, setI_size _ _ _⟩
    simp [Instr.mapUpdate, run_underlying hu, MapKept.run_getObj_map hb, hc, hf, hj, hk0, istays, MapKept.run_setObj_map _ hb, Result.andThen, setI]
/-- m[x] in a parallel assignment: the entry is got, and stored behind. -/
theorem IMap.entry {mt vt : TypeId} {z : Value} (hu : Tryz.prog.underlying mt = some (TypeDesc.map 3 vt)) (hz : ∀ u, (zeroValue vt).run Tryz.prog u = .ok z u) (h : IMap w r T) (x : Int) :
    ∃ (st : Int) (w1 : World), (Instr.mapEntry mt (.map (some r)) (.int .i64 x)).run Tryz.prog w = .ok (.tuple #[(T x).getD z, .int .i64 st]) w1 ∧ Fr w.heap.size [r] w w1 ∧ w1.heap.size = w.heap.size ∧
      ∀ (w2 : World) (v : Value), w2.heap[r]? = w1.heap[r]? → ∃ w3, (Instr.entryStore mt (.map (some r)) (.int .i64 st) v).run Tryz.prog w2 = .ok () w3 ∧ IMap w3 r (updI T x v) ∧ Fr w2.heap.size [r] w2 w3 ∧ w3.heap.size = w2.heap.size := by
  have hlt := h.lt
  obtain ⟨K, es, clock, hb, he⟩ := h
  have hc := fun b => ikey b x w
  have hf := MapKept.run_findKey (P := Tryz.prog) (w := w) Tryz.underlying3 (inow T x es.toList K 0 he.kv)
  cases hm : pzI x K 0 with
  | none =>
    rw [hm] at hf
    have hT : T x = none := Classical.byContradiction fun c => pzI_none hm ((he.mem x).2 c)
    rw [hT]
    refine ⟨clock, setI w r (.map (es.push { key := .int .i64 x, val := z, born := clock }) (clock + 1)), ?_, setI_fr _ _ _, setI_size _ _ _, fun w2 v hw2 => ?_⟩
    · simp [Instr.mapEntry, run_underlying hu, MapKept.run_getObj_map hb, hc, hf, hz, MapKept.run_setObj_map _ hb, Result.andThen, setI, goInt]
    · rw [setI_new hlt] at hw2
      have hlt2 : r < w2.heap.size := by
        rcases Nat.lt_or_ge r w2.heap.size with h | h
        · exact h
        · rw [Array.getElem?_eq_none h] at hw2; cases hw2
      have hidx : (es.push ⟨.int .i64 x, z, clock⟩).findIdx? (fun e => ((e.born : Nat) : Int) == ((clock : Nat) : Int)) = some es.size := by
        rw [Go.WideElems.findIdx_arr]
        have := Go.WideElems.findIdx_born (l := (es.push ⟨.int .i64 x, z, clock⟩).toList) (j := es.size) (e0 := ⟨.int .i64 x, z, clock⟩) (ies_push he (pzI_none hm) z).born (by simp)
        exact this
      have hmod : (es.push ⟨.int .i64 x, z, clock⟩).modify es.size (fun e => { e with val := v }) = es.push ⟨.int .i64 x, v, clock⟩ := by
        apply Array.ext'
        rw [Array.toList_modify, Array.toList_push, Array.toList_push, ← Array.length_toList, Go.WideElems.modify_last]
      refine ⟨setI w2 r (.map (es.push ⟨.int .i64 x, v, clock⟩) (clock + 1)), ?_, ⟨K ++ [x], _, _, setI_new hlt2 _, ies_push he (pzI_none hm) v⟩, setI_fr _ _ _, setI_size _ _ _⟩
      simp [Instr.entryStore, MapKept.run_getObj_map hw2, asInt, asIntOf, hidx, hmod, MapKept.run_setObj_map _ hw2, Result.andThen, setI]
  | some y =>
    rw [hm] at hf
    obtain ⟨e0, he0, g2, hk0, hv0⟩ := ies_at he hm
    have hj : es[y]? = some e0 := by simpa using he0
    have hT := (he.mem x).1 (List.mem_of_getElem? g2)
    obtain ⟨v0, hv⟩ := Option.ne_none_iff_exists'.1 hT
    rw [hv] at hf ⊢
    have hsame : es.modify y (fun e => { e with key := .int .i64 x }) = es := by
      apply Array.ext'
      rw [Array.toList_modify, Go.ChangeMaps.modify_eq_set _ _ _ _ he0]
      have : ({ e0 with key := .int .i64 x } : MapEntry) = e0 := by rw [← hk0]
      rw [this]
      exact Go.WideElems.set_self _ _ _ he0
    refine ⟨e0.born, setI w r (.map es clock), ?_, setI_fr _ _ _, setI_size _ _ _, fun w2 v hw2 => ?_⟩
    · simp [Instr.mapEntry, run_underlying hu, MapKept.run_getObj_map hb, hc, hf, hj, hk0, istays, hsame, MapKept.run_setObj_map _ hb, Result.andThen, setI, goInt]
    · rw [setI_new hlt] at hw2
      have hlt2 : r < w2.heap.size := by
        rcases Nat.lt_or_ge r w2.heap.size with h | h
        · exact h
        · rw [Array.getElem?_eq_none h] at hw2; cases hw2
      have hidx : es.findIdx? (fun e => ((e.born : Nat) : Int) == ((e0.born : Nat) : Int)) = some y := by
        rw [Go.WideElems.findIdx_arr]
        exact Go.WideElems.findIdx_born he.born he0
      have hml : (es.modify y (fun e => { e with val := v })).toList = es.toList.set y { e0 with val := v } := by
        rw [Array.toList_modify, Go.ChangeMaps.modify_eq_set _ _ _ _ he0]
      refine ⟨setI w2 r (.map (es.modify y (fun e => { e with val := v })) clock), ?_, ⟨K, _, _, setI_new hlt2 _, ies_set he g2 he0 hk0 v hml⟩, setI_fr _ _ _, setI_size _ _ _⟩
      simp [Instr.entryStore, MapKept.run_getObj_map hw2, asInt, asIntOf, hidx, MapKept.run_setObj_map _ hw2, Result.andThen, setI]
end
end Go.Proofs.YtfakgidimekikaaGreat
