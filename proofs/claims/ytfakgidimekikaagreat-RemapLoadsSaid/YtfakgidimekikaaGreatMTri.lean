/- Texts merged into one, for the number of files a claim may have: TriMap. -/
import Derived.Test.YtfakgidimekikaaGreatRows
import Derived.Test.YtfakgidimekikaaGreatMA
import Derived.WideMake
import Derived.ChangeKeysEq
namespace Go.Proofs.YtfakgidimekikaaGreat
open Go.RowKit Go.Fb
/-- A place as a value. -/
abbrev triV (x : Tri) : Value := .agg #[.int .i64 x.at_, .int .i64 x.d, .int .i64 x.e]
theorem tri_beq (x y : Tri) : ((x.at_ : Int) == (y.at_ : Int) && x.d == y.d && x.e == y.e) = decide (x = y) := by
  obtain ⟨a, b, c⟩ := x
  obtain ⟨a', b', c'⟩ := y
  rw [Bool.eq_iff_iff]
  simp
  omega
set_option maxRecDepth 100000 in
theorem tri_eq (x y : Tri) (w : World) : (Op.equal 191 (triV x) (triV y)).run Tryz.prog w = .ok (decide (x = y)) w := by
  have h : (Op.equalIn 10000 191 (triV x) (triV y)).run Tryz.prog w = .ok ((x.at_ : Int) == (y.at_ : Int) && x.d == y.d && x.e == y.e) w := by
    rw [run_equalIn_struct w 9999 191 _ _ (by kernel_rfl) (by kernel_rfl)]
    simp only [Program.fieldsOf, Tryz.underlying191]
    by_cases h1 : (x.at_ : Int) = (y.at_ : Int)
    · by_cases h2 : x.d = y.d
      · by_cases h3 : x.e = y.e <;> simp [Op.eqFields, part, isAgg, run_underlying Tryz.underlying3, run_equalIn_int w 9998 3 .i64 .i64 _ _ Tryz.underlying3, h1, h2, h3]
      · simp [Op.eqFields, part, isAgg, run_underlying Tryz.underlying3, run_equalIn_int w 9998 3 .i64 .i64 _ _ Tryz.underlying3, h1, h2]
    · have h2 : ((x.at_ : Int) == (y.at_ : Int)) = false := by rw [beq_eq_false_iff_ne]; exact h1
      simp [Op.eqFields, part, isAgg, run_underlying Tryz.underlying3, run_equalIn_int w 9998 3 .i64 .i64 _ _ Tryz.underlying3]
      rw [if_neg h1, h2]
      rfl
  rw [tri_beq] at h
  simp [Op.equal, Op.maxDepth, h]
theorem tri_check (b : Bool) (x : Tri) (w : World) : (Instr.checkKey b 10000 191 (triV x)).run Tryz.prog w = .ok () w := by
  have hi : ∀ v : Int, (Instr.checkKey b 9999 3 (.int .i64 v)).run Tryz.prog w = .ok () w := fun v => MapKept.run_checkKey (k := .int .i64 v) Tryz.underlying3 (by simp [MapKept.IsKey]) b 9998
  rw [show (10000 : Nat) = 9999 + 1 from rfl]
  unfold Instr.checkKey
  simp [run_underlying Tryz.underlying191, Result.andThen, part, isAgg, run_underlying Tryz.underlying3, hi]
/-- Block r is the map in which just the places of l are true. -/
def TriMap (w : World) (r : Nat) (l : List Tri) : Prop :=
  ∃ es clock, w.heap[r]? = some (.map es clock) ∧ es.toList.map (fun e => (e.key, e.val)) = l.map (fun x => (triV x, Value.bool true))
theorem tri_asking (x : Tri) (w : World) : ∀ (es : List MapEntry) (l : List Tri) (i : Nat), es.map (fun e => (e.key, e.val)) = l.map (fun y => (triV y, Value.bool true)) →
    if x ∈ l then ∃ j, (Instr.findAsking 191 (triV x) es i).run Tryz.prog w = .ok (some (j, .bool true)) w else (Instr.findAsking 191 (triV x) es i).run Tryz.prog w = .ok none w
  | [], [], i, _ => by simp [Instr.findAsking]
  | [], _ :: _, _, h => by simp at h
  | _ :: _, [], _, h => by simp at h
  | e :: es, y :: l, i, h => by
    simp only [List.map_cons, List.cons.injEq, Prod.mk.injEq] at h
    obtain ⟨⟨h1, h2⟩, h3⟩ := h
    have ih := tri_asking x w es l (i + 1) h3
    have he := tri_eq x y w
    rw [← h1] at he
    by_cases hxy : x = y
    · rw [decide_eq_true hxy] at he
      rw [if_pos (by simp [hxy])]
      exact ⟨i, by simp [Instr.findAsking, he, Result.andThen, h2]⟩
    · rw [decide_eq_false hxy] at he
      have hm : (x ∈ y :: l) = (x ∈ l) := by simp [hxy]
      simp only [hm]
      simp only [Instr.findAsking, Sem.run_bind, he, Result.andThen_ok, Bool.false_eq_true, if_false]
      exact ih
theorem tri_find {w : World} {l : List Tri} (x : Tri) (es : Array MapEntry) (h : es.toList.map (fun e => (e.key, e.val)) = l.map (fun y => (triV y, Value.bool true))) :
    if x ∈ l then ∃ j, (Instr.findKey 191 (triV x) es.toList).run Tryz.prog w = .ok (some (j, .bool true)) w else (Instr.findKey 191 (triV x) es.toList).run Tryz.prog w = .ok none w := by
  have ha := tri_asking x w es.toList l 0 h
  cases hl : es.toList with
  | nil =>
    rw [hl] at h
    have : l = [] := by simpa using h.symm
    subst this
    simp [Instr.findKey, run_underlying Tryz.underlying191, Result.andThen, Instr.findNow]
  | cons e es' =>
    rw [hl] at ha h
    cases l with
    | nil => simp at h
    | cons y l' =>
      have hk : e.key = triV y := by simp at h; exact h.1.1
      have hn : Instr.findNow (Tryz.prog.underlying 191 |>.getD .bool) (triV x) (e :: es') 0 = none := by
        rw [Tryz.underlying191]
        simp [Instr.findNow, hk, Instr.sameNow]
      have hrun : (Instr.findKey 191 (triV x) (e :: es')).run Tryz.prog w = (Instr.findAsking 191 (triV x) (e :: es') 0).run Tryz.prog w := by
        rw [Tryz.underlying191] at hn
        simp only [Option.getD_some] at hn
        simp [Instr.findKey, run_underlying Tryz.underlying191, Result.andThen, hn]
      rw [hrun]
      exact ha
theorem TriMap.look {w : World} {r : Nat} {l : List Tri} (h : TriMap w r l) (x : Tri) : (Instr.lookup 189 (.map (some r)) (triV x) false).run Tryz.prog w = .ok (.bool (decide (x ∈ l))) w := by
  obtain ⟨es, clock, hb, he⟩ := h
  have hc := fun b => tri_check b x w
  have hz : (zeroValue 4).run Tryz.prog w = .ok (.bool false) w := by kernel_rfl
  have hf := tri_find (w := w) x es he
  by_cases hm : x ∈ l
  · rw [if_pos hm] at hf
    obtain ⟨j, hf⟩ := hf
    rw [decide_eq_true hm]
    simp [Instr.lookup, run_underlying Tryz.underlying189, MapKept.run_getObj_map hb, hc, hf, Result.andThen]
  · rw [if_neg hm] at hf
    rw [decide_eq_false hm]
    simp [Instr.lookup, run_underlying Tryz.underlying189, MapKept.run_getObj_map hb, hc, hf, hz, Result.andThen]
theorem TriMap.lt {w : World} {r : Nat} {l : List Tri} (h : TriMap w r l) : r < w.heap.size := by
  obtain ⟨es, clock, hb, he⟩ := h
  rcases Nat.lt_or_ge r w.heap.size with h | h
  · exact h
  · rw [Array.getElem?_eq_none h] at hb; cases hb
theorem TriMap.store {w : World} {r : Nat} {l : List Tri} (h : TriMap w r l) {x : Tri} (hx : x ∉ l) :
    ∃ w', (Instr.mapUpdate 189 (.map (some r)) (triV x) (.bool true)).run Tryz.prog w = .ok () w' ∧ TriMap w' r (l ++ [x]) ∧ Fr w.heap.size [r] w w' := by
  have hlt := h.lt
  obtain ⟨es, clock, hb, he⟩ := h
  have hf := tri_find (w := w) x es he
  rw [if_neg hx] at hf
  refine ⟨{ w with heap := w.heap.setIfInBounds r (.map (es.push { key := triV x, val := .bool true, born := clock }) (clock + 1)) }, ?_, ⟨es.push { key := triV x, val := .bool true, born := clock }, clock + 1, by simp [hlt], ?_⟩, ⟨rfl, rfl, rfl, by simp, fun k _ hk => ?_⟩⟩
  · simp [Instr.mapUpdate, run_underlying Tryz.underlying189, MapKept.run_getObj_map hb, tri_check, hf, MapKept.run_setObj_map _ hb, Result.andThen]
  · simp [he]
  · have : r ≠ k := fun h => hk (by simp [h])
    simp [this]
theorem TriMap.fr {w w' : World} {r B : Nat} {L : List Nat} {l : List Tri} (h : TriMap w r l) (hf : Fr B L w w') (h1 : r < B) (h2 : r ∉ L) : TriMap w' r l := by
  obtain ⟨es, clock, hb, he⟩ := h
  exact ⟨es, clock, (hf.block r h1 h2).trans hb, he⟩
theorem TriMap.new (w : World) : TriMap (w.alloc (.map #[] 0)) w.heap.size [] := ⟨#[], 0, heap_alloc_new w _, rfl⟩
theorem TriMap.ne {w : World} {r g t : Nat} {l : List Tri} {cs : Array Value} (h : TriMap w r l) (hb : Blk w g t cs) : r ≠ g := by
  rintro rfl
  obtain ⟨es, clock, h1, _⟩ := h
  unfold Blk at hb
  rw [h1] at hb
  cases hb
end Go.Proofs.YtfakgidimekikaaGreat
