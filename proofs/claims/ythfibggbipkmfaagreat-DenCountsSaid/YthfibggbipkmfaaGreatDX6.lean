/- Texts merged into one, for the number of files a claim may have: Join, CtM, EntEq, Parts, RouteA, RouteB, IMap, Nd, PartsB, SetL, StepApp, CapN. -/
import Derived.Test.YthfibggbipkmfaaGreatDX5
import Derived.ChangeKeysEq
import Derived.ChangeMaps
import Derived.Deep.AppendLies
import Derived.Deep.DeepCutAuto
import Derived.Deep.RegionLaw
import Derived.Laws.StructEq
import Derived.MapKept
import Derived.Test.YthfibggbipkmfaaGreatRows
import Derived.WideKeyEntry
namespace Go.Proofs.YthfibggbipkmfaaGreat
open Go.RowKit Go.Fb
/-- The same below m. -/
def AgreeB (m : Nat) (s s' : CS) : Prop := ∀ x, x < m → s.D x = s'.D x ∧ s.E x = s'.E x
theorem AgreeB.come {n m : Nat} (hm : m ≤ n) {s s' s1 : CS} (R : AgreeB m s s') {t : Nat} {d e : Int} (h : comeF n s t d e = some s1) : ∃ s1', comeF m s' (min t m) d e = some s1' ∧ AgreeB m s1 s1' := by
  unfold comeF at h ⊢
  split at h
  · cases h
  · rename_i h1
    rw [if_neg h1]
    by_cases ht : t < m
    · rw [show min t m = t by omega, if_neg (by omega)]
      rw [if_neg (by omega)] at h
      obtain ⟨a, b⟩ := R t ht
      rw [← a, ← b]
      split at h
      · cases h
      · rename_i h2
        rw [if_neg h2]
        injection h with h; subst h
        refine ⟨_, rfl, fun x hx => ?_⟩
        simp only [updC]
        split
        · exact ⟨rfl, rfl⟩
        · exact R x hx
    · rw [show min t m = m by omega, if_pos rfl]
      refine ⟨_, rfl, fun x hx => ?_⟩
      split at h
      · injection h with h; subst h
        exact R x hx
      · split at h
        · cases h
        · injection h with h; subst h
          simp only [updC]
          rw [if_neg (by omega), if_neg (by omega)]
          exact R x hx
theorem AgreeB.comes {n m : Nat} (hm : m ≤ n) {d e : Int} : ∀ (l : List Nat) {s s' s1 : CS}, AgreeB m s s' → comesF n d e l s = some s1 → ∃ s1', comesF m d e (l.map (min · m)) s' = some s1' ∧ AgreeB m s1 s1'
  | [], s, s', s1, R, h => by injection h with h; subst h; exact ⟨s', rfl, R⟩
  | t :: l, s, s', s1, R, h => by
    unfold comesF at h
    split at h
    · cases h
    · rename_i s2 h2
      obtain ⟨s2', h2', R2⟩ := R.come hm h2
      obtain ⟨s1', h1', R1⟩ := AgreeB.comes hm l R2 h
      refine ⟨s1', ?_, R1⟩
      simp only [List.map_cons, comesF, h2']
      exact h1'
theorem AgreeB.use {m : Nat} {s s' : CS} (R : AgreeB m s s') (i : Int × Int) : AgreeB m (useF s i) (useF s' i) := by
  unfold useF; split
  · split <;> exact R
  · exact R
/-- What the instructions up to k add to the depth. -/
def depF (p : Nat → Int × Int) : Nat → Int
  | 0 => 0
  | k + 1 => depF p k + (leavesF (p k).1 - takesF (p k).1)
/-- A program without jumps, gone through up to k. -/
structure Line (n : Nat) (p : Nat → Int × Int) (k : Nat) (s : CS) : Prop where
  d : k < n → s.D k = depF p k
  e : k < n → s.E k = s.em
  fresh : ∀ x, k < x → s.D x = -1 ∧ s.E x = 0
  pos : 0 ≤ depF p k
theorem come_em {n : Nat} {s s1 : CS} {t : Nat} {d e : Int} (h : comeF n s t d e = some s1) : s.em ≤ s1.em ∧ e ≤ s1.em := by
  unfold comeF at h
  split at h
  · cases h
  · split at h
    · injection h with h; subst h; show s.em ≤ max _ _ ∧ e ≤ max _ _; omega
    · split at h
      · cases h
      · injection h with h; subst h; show s.em ≤ max _ _ ∧ e ≤ max _ _; omega
theorem comes_em {n : Nat} {d e : Int} : ∀ (l : List Nat) {s s1 : CS}, comesF n d e l s = some s1 → s.em ≤ s1.em
  | [], s, s1, h => by injection h with h; subst h; exact Int.le_refl _
  | t :: l, s, s1, h => by
    unfold comesF at h
    split at h
    · cases h
    · rename_i s2 h2
      have := (come_em h2).1
      have := comes_em l h
      omega
theorem use_em (s : CS) (i : Int × Int) : (useF s i).em = s.em ∧ (useF s i).mx = s.mx ∧ (useF s i).E = s.E ∧ (useF s i).D = s.D := by
  unfold useF; split; (split <;> exact ⟨rfl, rfl, rfl, rfl⟩); exact ⟨rfl, rfl, rfl, rfl⟩
/-- The second program's run, behind the first. -/
structure Joined (np nq : Nat) (mx em : Int) (t u : CS) : Prop where
  d : ∀ x, x < nq → u.D (np + x) = t.D x
  e1 : ∀ x, x < nq → t.D x ≠ -1 → u.E (np + x) = em + t.E x
  e0 : ∀ x, x < nq → t.D x = -1 → u.E (np + x) = 0 ∧ t.E x = 0
  m : u.mx = max mx t.mx
  em : u.em = em + t.em
theorem Joined.come {np nq : Nat} {mx em : Int} {t u t1 : CS} (J : Joined np nq mx em t u) (hem : 0 ≤ em) {x : Nat} {d e : Int} (hx : x ≤ nq) (hd : 0 ≤ d) (he : 0 ≤ e) (h : comeF nq t x d e = some t1) (h4 : em + t1.em ≤ 4) : ∃ u1, comeF (np + nq) u (np + x) d (em + e) = some u1 ∧ Joined np nq mx em t1 u1 := by
  have hle := come_em h
  have hm := J.m
  have hj := J.em
  unfold comeF at h ⊢
  split at h
  · cases h
  · rename_i h1
    rw [if_neg (by omega)]
    by_cases hxn : x = nq
    · rw [if_pos hxn] at h
      rw [if_pos (by omega)]
      injection h with h; subst h
      refine ⟨_, rfl, J.d, J.e1, J.e0, ?_, ?_⟩
      · show max u.mx d = max mx (max t.mx d); omega
      · show max u.em (em + e) = em + max t.em e; omega
    · rw [if_neg hxn] at h
      rw [if_neg (by omega), J.d x (by omega)]
      split at h
      · cases h
      · rename_i h2
        rw [if_neg h2]
        injection h with h; subst h
        refine ⟨_, rfl, fun y hy => ?_, fun y hy hD => ?_, fun y hy hD => ?_, ?_, ?_⟩
        · simp only [updC]
          by_cases c : y = x
          · rw [if_pos c, if_pos (by omega)]
          · rw [if_neg c, if_neg (by omega)]; exact J.d y hy
        · simp only [updC] at hD ⊢
          by_cases c : y = x
          · subst c
            rw [if_pos rfl, if_pos rfl]
            by_cases hm1 : t.D y = -1
            · obtain ⟨a, b⟩ := J.e0 y hy hm1
              rw [a, b]; omega
            · rw [J.e1 y hy hm1]; omega
          · rw [if_neg c] at hD
            rw [if_neg c, if_neg (by omega)]; exact J.e1 y hy hD
        · simp only [updC] at hD ⊢
          by_cases c : y = x
          · rw [if_pos c] at hD; omega
          · rw [if_neg c] at hD
            rw [if_neg c, if_neg (by omega)]; exact J.e0 y hy hD
        · show max u.mx d = max mx (max t.mx d); omega
        · show max u.em (em + e) = em + max t.em e; omega
theorem Joined.comes {np nq : Nat} {mx em : Int} (hem : 0 ≤ em) {d e : Int} (hd : 0 ≤ d) (he : 0 ≤ e) : ∀ (l : List Nat) {t u t1 : CS}, (∀ x ∈ l, x ≤ nq) → Joined np nq mx em t u → comesF nq d e l t = some t1 → em + t1.em ≤ 4 → ∃ u1, comesF (np + nq) d (em + e) (l.map (np + ·)) u = some u1 ∧ Joined np nq mx em t1 u1
  | [], t, u, t1, _, J, h, _ => by injection h with h; subst h; exact ⟨u, rfl, J⟩
  | x :: l, t, u, t1, hl, J, h, h4 => by
    unfold comesF at h
    split at h
    · cases h
    · rename_i t2 h2
      have hle := comes_em l h
      obtain ⟨u2, g2, J2⟩ := J.come hem (hl x (by simp)) hd he h2 (by omega)
      obtain ⟨u1, g1, J1⟩ := Joined.comes hem hd he l (fun y hy => hl y (by simp [hy])) J2 h h4
      refine ⟨u1, ?_, J1⟩
      simp only [List.map_cons, comesF, g2]
      exact g1
theorem Joined.use {np nq : Nat} {mx em : Int} {t u : CS} (J : Joined np nq mx em t u) (i : Int × Int) : Joined np nq mx em (useF t i) (useF u i) := by
  obtain ⟨a1, a2, a3, a4⟩ := use_em t i
  obtain ⟨b1, b2, b3, b4⟩ := use_em u i
  refine ⟨?_, ?_, ?_, ?_, ?_⟩
  · rw [a4, b4]; exact J.d
  · rw [a4, b3, a3]; exact J.e1
  · rw [a4, b3, a3]; exact J.e0
  · rw [a2, b2]; exact J.m
  · rw [a1, b1]; exact J.em
theorem fitsB_iff {l : List (Int × Int)} : fitsB l = true ↔ l.length ≤ 24 ∧ ∀ x ∈ l, rightB x = true := by
  unfold fitsB
  rw [Bool.and_eq_true, List.all_eq_true, decide_eq_true_eq]
theorem chkL_some {l : List (Int × Int)} {s : CS} (h : chkL l = some s) : fitsB l = true ∧ checkF l.length (pF l) l.length = some s := by
  unfold chkL at h
  by_cases hf : fitsB l = true
  · rw [if_pos hf] at h; exact ⟨hf, h⟩
  · rw [if_neg hf] at h; cases h
end Go.Proofs.YthfibggbipkmfaaGreat
namespace Go.Proofs.YthfibggbipkmfaaGreat
open Go.RowKit Go.Fb
set_option linter.unusedVariables false
/-- A place; four numbers that are kept. -/
abbrev Pk : Type := Int × Int
abbrev CV : Type := Int × Int × Int × Int
abbrev pkV (p : Pk) : Value := .agg #[.int .i64 p.1, .int .i64 p.2]
abbrev cvV (c : CV) : Value := .agg #[.int .i64 c.1, .int .i64 c.2.1, .int .i64 c.2.2.1, .int .i64 c.2.2.2]
def c0 : CV := (0, 0, 0, 0)
def updT (T : Pk → CV) (p : Pk) (c : CV) : Pk → CV := fun q => if q = p then c else T q
theorem pk_beq (x y : Pk) : (x.1 == y.1 && x.2 == y.2) = decide (x = y) := by
  obtain ⟨a, b⟩ := x
  obtain ⟨a', b'⟩ := y
  rw [Bool.eq_iff_iff]
  simp
theorem pkV_inj {p q : Pk} (h : pkV p = pkV q) : p = q := by
  obtain ⟨a, b⟩ := p
  obtain ⟨a', b'⟩ := q
  unfold pkV at h
  injection h with h
  simp only [Array.mk.injEq, List.cons.injEq, Value.int.injEq, true_and, and_true] at h
  obtain ⟨rfl, rfl⟩ := h
  rfl
set_option maxRecDepth 100000 in
theorem pk_eq (x y : Pk) (w : World) : (Op.equal 89 (pkV x) (pkV y)).run Tryz.prog w = .ok (decide (x = y)) w := by
  have h : (Op.equalIn 10000 89 (pkV x) (pkV y)).run Tryz.prog w = .ok (x.1 == y.1 && x.2 == y.2) w := by
    rw [run_equalIn_struct w 9999 89 _ _ (by kernel_rfl) (by kernel_rfl)]
    simp only [Program.fieldsOf, Tryz.underlying89]
    by_cases h1 : x.1 = y.1
    · by_cases h2 : x.2 = y.2 <;> simp [Op.eqFields, part, isAgg, run_underlying Tryz.underlying3, run_equalIn_int w 9998 3 .i64 .i64 _ _ Tryz.underlying3, h1, h2]
    · simp [Op.eqFields, part, isAgg, run_underlying Tryz.underlying3, run_equalIn_int w 9998 3 .i64 .i64 _ _ Tryz.underlying3, h1]
  rw [pk_beq] at h
  simp [Op.equal, Op.maxDepth, h]
theorem pk_check (b : Bool) (x : Pk) (w : World) : (Instr.checkKey b 10000 89 (pkV x)).run Tryz.prog w = .ok () w := by
  have hi : ∀ v : Int, (Instr.checkKey b 9999 3 (.int .i64 v)).run Tryz.prog w = .ok () w := fun v => MapKept.run_checkKey (k := .int .i64 v) Tryz.underlying3 (by simp [MapKept.IsKey]) b 9998
  rw [show (10000 : Nat) = 9999 + 1 from rfl]
  unfold Instr.checkKey
  simp [run_underlying Tryz.underlying89, Result.andThen, part, isAgg, run_underlying Tryz.underlying3, hi]
theorem pk_stays (x : Pk) (w : World) : (Instr.keyThatStays (pkV x) (pkV x)).run Tryz.prog w = .ok (pkV x) w := by
  have h : Instr.sameBits 10000 (pkV x) (pkV x) = true := by
    rw [show (10000 : Nat) = 9998 + 1 + 1 from rfl]
    simp [Instr.sameBits]
  unfold Instr.keyThatStays
  rw [if_pos h]
  rfl
/-- Where a place stands. -/
def posK (p : Pk) : List Pk → Nat → Option Nat
  | [], _ => none
  | x :: l, i => if p = x then some i else posK p l (i + 1)
theorem posK_some {p : Pk} : ∀ {K : List Pk} {i j : Nat}, posK p K i = some j → i ≤ j ∧ K[j - i]? = some p
  | [], i, j, h => by simp [posK] at h
  | x :: l, i, j, h => by
    unfold posK at h
    split at h
    · rename_i hp
      injection h with h
      subst h
      subst hp
      exact ⟨Nat.le_refl _, by simp⟩
    · obtain ⟨a, b⟩ := posK_some h
      refine ⟨by omega, ?_⟩
      rw [show j - i = (j - (i + 1)) + 1 by omega, List.getElem?_cons_succ]
      exact b
theorem posK_none {p : Pk} : ∀ {K : List Pk} {i : Nat}, posK p K i = none → p ∉ K
  | [], i, _ => by simp
  | x :: l, i, h => by
    unfold posK at h
    split at h
    · cases h
    · rename_i hp
      have := posK_none h
      simp [hp, this]
/-- The entries of the map: the keys K, each with what T keeps of it. -/
structure Ents (es : Array MapEntry) (clock : Nat) (K : List Pk) (T : Pk → CV) : Prop where
  old : ∀ x ∈ es.toList, x.born < clock
  born : (es.toList.map (·.born)).Nodup
  nd : K.Nodup
  mem : ∀ p, p ∈ K ↔ T p ≠ c0
  kv : es.toList.map (fun e => (e.key, e.val)) = K.map (fun p => (pkV p, cvV (T p)))
theorem pk_asking (T : Pk → CV) (x : Pk) (w : World) : ∀ (es : List MapEntry) (K : List Pk) (i : Nat), es.map (fun e => (e.key, e.val)) = K.map (fun p => (pkV p, cvV (T p))) → (Instr.findAsking 89 (pkV x) es i).run Tryz.prog w = .ok ((posK x K i).map fun j => (j, cvV (T x))) w
  | [], [], i, _ => by simp [Instr.findAsking, posK]
  | [], _ :: _, _, h => by simp at h
  | _ :: _, [], _, h => by simp at h
  | e :: es, y :: l, i, h => by
    simp only [List.map_cons, List.cons.injEq, Prod.mk.injEq] at h
    obtain ⟨⟨h1, h2⟩, h3⟩ := h
    have ih := pk_asking T x w es l (i + 1) h3
    have he := pk_eq x y w
    rw [← h1] at he
    unfold posK
    by_cases hxy : x = y
    · rw [decide_eq_true hxy] at he
      rw [if_pos hxy]
      subst hxy
      simp [Instr.findAsking, he, Result.andThen, h2]
    · rw [decide_eq_false hxy] at he
      rw [if_neg hxy]
      simp only [Instr.findAsking, Sem.run_bind, he, Result.andThen_ok, Bool.false_eq_true, if_false]
      exact ih
theorem pk_find {w : World} {T : Pk → CV} {K : List Pk} (x : Pk) (es : Array MapEntry) (h : es.toList.map (fun e => (e.key, e.val)) = K.map (fun p => (pkV p, cvV (T p)))) :
    (Instr.findKey 89 (pkV x) es.toList).run Tryz.prog w = .ok ((posK x K 0).map fun j => (j, cvV (T x))) w := by
  have ha := pk_asking T x w es.toList K 0 h
  cases hl : es.toList with
  | nil =>
    rw [hl] at h
    have : K = [] := by simpa using h.symm
    subst this
    simp [Instr.findKey, run_underlying Tryz.underlying89, Result.andThen, Instr.findNow, posK]
  | cons e es' =>
    rw [hl] at ha h
    cases K with
    | nil => simp at h
    | cons y l' =>
      have hk : e.key = pkV y := by simp at h; exact h.1.1
      have hn : Instr.findNow (Tryz.prog.underlying 89 |>.getD .bool) (pkV x) (e :: es') 0 = none := by
        rw [Tryz.underlying89]
        simp [Instr.findNow, hk, Instr.sameNow]
      have hrun : (Instr.findKey 89 (pkV x) (e :: es')).run Tryz.prog w = (Instr.findAsking 89 (pkV x) (e :: es') 0).run Tryz.prog w := by
        rw [Tryz.underlying89] at hn
        simp only [Option.getD_some] at hn
        simp [Instr.findKey, run_underlying Tryz.underlying89, Result.andThen, hn]
      rw [hrun]
      exact ha
/-- Block r is the map that keeps T. -/
def KMap (w : World) (r : Nat) (T : Pk → CV) : Prop := ∃ K es clock, w.heap[r]? = some (.map es clock) ∧ Ents es clock K T
def setM (w : World) (r : Nat) (o : Obj) : World := { w with heap := w.heap.setIfInBounds r o }
theorem setM_fr (w : World) (r : Nat) (o : Obj) : Fr w.heap.size [r] w (setM w r o) :=
  ⟨rfl, rfl, rfl, by simp [setM], fun k _ hk => by
    have : r ≠ k := fun e => hk (by simp [e])
    simp [setM, this]⟩
theorem setM_new {w : World} {r : Nat} (h : r < w.heap.size) (o : Obj) : (setM w r o).heap[r]? = some o := by simp [setM, h]
theorem setM_size (w : World) (r : Nat) (o : Obj) : (setM w r o).heap.size = w.heap.size := by simp [setM]
section
variable {w w' : World} {r : Nat} {T : Pk → CV}
theorem KMap.lt (h : KMap w r T) : r < w.heap.size := by
  obtain ⟨K, es, clock, hb, _⟩ := h
  rcases Nat.lt_or_ge r w.heap.size with h | h
  · exact h
  · rw [Array.getElem?_eq_none h] at hb; cases hb
theorem KMap.new (w : World) : KMap (w.alloc (.map #[] 0)) w.heap.size (fun _ => c0) := ⟨[], #[], 0, heap_alloc_new w _, by simp, by simp, List.nodup_nil, by simp, rfl⟩
theorem KMap.fr {B : Nat} {L : List Nat} (h : KMap w r T) (hf : Fr B L w w') (h1 : r < B) (h2 : r ∉ L) : KMap w' r T := by
  obtain ⟨K, es, clock, hb, he⟩ := h
  exact ⟨K, es, clock, (hf.block r h1 h2).trans hb, he⟩
theorem KMap.ne {g t : Nat} {cs : Array Value} (h : KMap w r T) (hb : Blk w g t cs) : r ≠ g := by
  rintro rfl
  obtain ⟨K, es, clock, h1, _⟩ := h
  unfold Blk at hb
  rw [h1] at hb
  cases hb
set_option maxRecDepth 100000 in
theorem KMap.look (h : KMap w r T) (x : Pk) : (Instr.lookup 73 (.map (some r)) (pkV x) false).run Tryz.prog w = .ok (cvV (T x)) w := by
  obtain ⟨K, es, clock, hb, he⟩ := h
  have hc := fun b => pk_check b x w
  have hz : (zeroValue 76).run Tryz.prog w = .ok (cvV c0) w := by kernel_rfl
  have hf := pk_find (w := w) x es he.kv
  cases hm : posK x K 0 with
  | none =>
    rw [hm] at hf
    have hT : T x = c0 := Decidable.not_not.1 fun hn => posK_none hm ((he.mem x).2 hn)
    rw [hT]
    simp [Instr.lookup, run_underlying Tryz.underlying73, MapKept.run_getObj_map hb, hc, hf, hz, Result.andThen]
  | some y =>
    rw [hm] at hf
    simp [Instr.lookup, run_underlying Tryz.underlying73, MapKept.run_getObj_map hb, hc, hf, Result.andThen]
set_option maxRecDepth 100000 in
/-- m[p] = c, c being something. -/
theorem KMap.store (h : KMap w r T) (x : Pk) (c : CV) (hc0 : c ≠ c0) :
    ∃ w', (Instr.mapUpdate 73 (.map (some r)) (pkV x) (cvV c)).run Tryz.prog w = .ok () w' ∧ KMap w' r (updT T x c) ∧ Fr w.heap.size [r] w w' ∧ w'.heap.size = w.heap.size := by
  have hlt := h.lt
  obtain ⟨K, es, clock, hb, he⟩ := h
  have hc := fun b => pk_check b x w
  have hf := pk_find (w := w) x es he.kv
  have hlen : es.toList.length = K.length := by have := congrArg List.length he.kv; simpa using this
  cases hm : posK x K 0 with
  | none =>
    rw [hm] at hf
    have hx := posK_none hm
    refine ⟨setM w r (.map (es.push { key := pkV x, val := cvV c, born := clock }) (clock + 1)), ?_, ⟨K ++ [x], _, _, setM_new hlt _, ?_, ?_, ?_, ?_, ?_⟩, setM_fr _ _ _, setM_size _ _ _⟩
    · simp [Instr.mapUpdate, run_underlying Tryz.underlying73, MapKept.run_getObj_map hb, hc, hf, MapKept.run_setObj_map _ hb, Result.andThen, setM]
    · intro y hy
      rw [Array.toList_push, List.mem_append, List.mem_singleton] at hy
      rcases hy with hy | rfl
      · have := he.old y hy; omega
      · show clock < clock + 1; omega
    · rw [Array.toList_push, List.map_append]
      refine List.nodup_append.2 ⟨he.born, by simp, fun a ha c hc e1 => ?_⟩
      simp at hc
      obtain ⟨y, hy, rfl⟩ := List.mem_map.1 ha
      have := he.old y hy
      omega
    · rw [List.nodup_append]
      exact ⟨he.nd, by simp, fun a ha b hb => by rw [List.mem_singleton] at hb; rw [hb]; exact fun e => hx (e ▸ ha)⟩
    · intro p
      unfold updT
      rw [List.mem_append, List.mem_singleton, he.mem]
      by_cases e : p = x
      · rw [if_pos e]; simp [e, hc0]
      · rw [if_neg e]; simp [e]
    · rw [Array.toList_push, List.map_append, List.map_append, he.kv]
      congr 1
      · refine List.map_congr_left fun p hp => ?_
        unfold updT
        have hne : p ≠ x := fun e => hx (e ▸ hp)
        rw [if_neg hne]
      · simp [updT]
  | some y =>
    rw [hm] at hf
    obtain ⟨_, g2⟩ := posK_some hm
    rw [Nat.sub_zero] at g2
    have hyl : y < K.length := (List.getElem?_eq_some_iff.1 g2).1
    obtain ⟨e0, he0⟩ : ∃ e0, es.toList[y]? = some e0 := ⟨_, List.getElem?_eq_getElem (by omega)⟩
    have hkv : (e0.key, e0.val) = (pkV x, cvV (T x)) := by
      have a : (es.toList.map (fun e => (e.key, e.val)))[y]? = some (e0.key, e0.val) := by rw [List.getElem?_map, he0]; rfl
      rw [he.kv, List.getElem?_map, g2] at a
      simpa using a.symm
    have hk0 : e0.key = pkV x := congrArg Prod.fst hkv
    have hj : es[y]? = some e0 := by simpa using he0
    have hml : (es.modify y (fun e => { e with key := pkV x, val := cvV c })).toList = es.toList.set y { e0 with key := pkV x, val := cvV c } := by
      rw [Array.toList_modify, Go.ChangeMaps.modify_eq_set _ _ _ _ he0]
    refine ⟨setM w r (.map (es.modify y (fun e => { e with key := pkV x, val := cvV c })) clock), ?_, ⟨K, _, _, setM_new hlt _, ?_, ?_, he.nd, ?_, ?_⟩, setM_fr _ _ _, setM_size _ _ _⟩
    · simp [Instr.mapUpdate, run_underlying Tryz.underlying73, MapKept.run_getObj_map hb, hc, hf, hj, hk0, pk_stays, MapKept.run_setObj_map _ hb, Result.andThen, setM]
    · intro z hz
      rw [hml] at hz
      rcases List.mem_or_eq_of_mem_set hz with hz | rfl
      · exact he.old z hz
      · exact he.old e0 (List.mem_of_getElem? he0)
    · rw [hml, List.map_set]
      show (List.set _ y e0.born).Nodup
      rw [Go.WideElems.set_self _ _ _ (by rw [List.getElem?_map, he0]; rfl)]
      exact he.born
    · intro p
      unfold updT
      rw [he.mem]
      by_cases e : p = x
      · rw [if_pos e]
        have := (he.mem x).1 (List.mem_of_getElem? g2)
        simp [e, hc0, this]
      · rw [if_neg e]
    · rw [hml, List.map_set, he.kv]
      refine List.ext_getElem? fun j => ?_
      rw [List.getElem?_set, List.getElem?_map, List.getElem?_map]
      by_cases hjy : y = j
      · subst hjy
        rw [if_pos rfl, List.length_map, if_pos hyl, g2]
        simp [updT]
      · rw [if_neg hjy]
        cases hp : K[j]? with
        | none => rfl
        | some p =>
          have : p ≠ x := fun e => by
            subst e
            obtain ⟨i1, e1⟩ := List.getElem?_eq_some_iff.1 g2
            obtain ⟨i2, e2⟩ := List.getElem?_eq_some_iff.1 hp
            exact hjy ((List.getElem_inj he.nd).1 (e1.trans e2.symm))
          simp [updT, this]
theorem mem_eraseIdx_nd {K : List Pk} (hn : K.Nodup) {j : Nat} {x : Pk} (hj : K[j]? = some x) (p : Pk) : p ∈ K.eraseIdx j ↔ p ∈ K ∧ p ≠ x := by
  rw [List.mem_eraseIdx_iff_getElem?]
  obtain ⟨i2, e2⟩ := List.getElem?_eq_some_iff.1 hj
  constructor
  · rintro ⟨i, hi, h⟩
    refine ⟨List.mem_of_getElem? h, fun e => ?_⟩
    subst e
    obtain ⟨i1, e1⟩ := List.getElem?_eq_some_iff.1 h
    exact hi ((List.getElem_inj hn).1 (e1.trans e2.symm))
  · rintro ⟨h, hne⟩
    obtain ⟨i, hi⟩ := List.mem_iff_getElem?.1 h
    exact ⟨i, fun e => by subst e; rw [hj] at hi; injection hi with hi; exact hne hi.symm, hi⟩
set_option maxRecDepth 100000 in
/-- delete(m, p). -/
theorem KMap.del (h : KMap w r T) (x : Pk) :
    ∃ w', (∀ ty, (Builtin.delete_ #[73, 89] ty #[.map (some r), pkV x]).run Tryz.prog w = .ok (.tuple #[]) w') ∧ KMap w' r (updT T x c0) ∧ Fr w.heap.size [r] w w' ∧ w'.heap.size = w.heap.size := by
  have hlt := h.lt
  obtain ⟨K, es, clock, hb, he⟩ := h
  have hc := fun b => pk_check b x w
  have hf := pk_find (w := w) x es he.kv
  have hlen : es.toList.length = K.length := by have := congrArg List.length he.kv; simpa using this
  cases hm : posK x K 0 with
  | none =>
    rw [hm] at hf
    have hx := posK_none hm
    have hT : T x = c0 := Decidable.not_not.1 fun hn => hx ((he.mem x).2 hn)
    have hTe : updT T x c0 = T := by
      funext q
      unfold updT
      by_cases e : q = x
      · rw [if_pos e, e, hT]
      · rw [if_neg e]
    refine ⟨setM w r (.map es clock), fun ty => ?_, ⟨K, _, _, setM_new hlt _, by rw [hTe]; exact he⟩, setM_fr _ _ _, setM_size _ _ _⟩
    simp [Builtin.delete_, run_underlying Tryz.underlying73, MapKept.run_getObj_map hb, hc, hf, MapKept.run_setObj_map _ hb, Result.andThen, setM]
  | some y =>
    rw [hm] at hf
    obtain ⟨_, g2⟩ := posK_some hm
    rw [Nat.sub_zero] at g2
    have hyl : y < K.length := (List.getElem?_eq_some_iff.1 g2).1
    have hyE : y < es.size := by rw [← Array.length_toList]; omega
    have hml : (es.eraseIdxIfInBounds y).toList = es.toList.eraseIdx y := by
      unfold Array.eraseIdxIfInBounds
      rw [dif_pos hyE, Array.toList_eraseIdx]
    refine ⟨setM w r (.map (es.eraseIdxIfInBounds y) clock), fun ty => ?_, ⟨K.eraseIdx y, _, _, setM_new hlt _, ?_, ?_, ?_, ?_, ?_⟩, setM_fr _ _ _, setM_size _ _ _⟩
    · simp [Builtin.delete_, run_underlying Tryz.underlying73, MapKept.run_getObj_map hb, hc, hf, MapKept.run_setObj_map _ hb, Result.andThen, setM]
    · intro z hz
      rw [hml] at hz
      exact he.old z ((List.eraseIdx_sublist _ _).subset hz)
    · rw [hml]
      exact he.born.sublist ((List.eraseIdx_sublist _ _).map _)
    · exact he.nd.sublist (List.eraseIdx_sublist _ _)
    · intro p
      rw [mem_eraseIdx_nd he.nd g2, he.mem]
      unfold updT
      by_cases e : p = x
      · rw [if_pos e]; simp [e]
      · rw [if_neg e]; simp [e]
    · have hme : ∀ {α β : Type} (f : α → β) (l : List α) (i : Nat), (l.eraseIdx i).map f = (l.map f).eraseIdx i := fun f l i => by
        rw [List.eraseIdx_eq_take_drop_succ, List.eraseIdx_eq_take_drop_succ, List.map_append, List.map_take, List.map_drop]
      rw [hml, hme, he.kv, ← hme]
      refine List.map_congr_left fun p hp => ?_
      have := ((mem_eraseIdx_nd he.nd g2 p).1 hp).2
      unfold updT
      rw [if_neg this]
end
end Go.Proofs.YthfibggbipkmfaaGreat
namespace Go.Proofs.YthfibggbipkmfaaGreat
open Go.RowKit Go.Fb
set_option maxRecDepth 100000 in
theorem val_eq (d : Nat) (a b : Int) (w : World) : (Op.equalIn (d + 2) 42 (.agg #[.int .i64 a, .int .i64 b]) (.agg #[.int .i64 a, .int .i64 b])).run Tryz.prog w = .ok true w := by
  rw [run_equalIn_struct w (d + 1) 42 _ _ (by kernel_rfl) (by kernel_rfl)]
  simp [Program.fieldsOf, Tryz.underlying42]
  simp [Op.eqFields, part, isAgg, run_underlying Tryz.underlying3, run_equalIn_int w d 3 .i64 .i64 _ _ Tryz.underlying3]
theorem valinfo : (Tryz.prog.info? 42).map (fun i => (i.zero, i.size, i.bytes)) = some (some (.agg #[.int .i64 0, .int .i64 0]), 2, 16) := by kernel_rfl
set_option maxRecDepth 100000 in
theorem vals_eq (d : Nat) (a b c e : Int) (w : World) : (Op.equalIn (d + 3) 76 (.agg #[.int .i64 a, .int .i64 b, .int .i64 c, .int .i64 e]) (.agg #[.int .i64 a, .int .i64 b, .int .i64 c, .int .i64 e])).run Tryz.prog w = .ok true w := by
  obtain ⟨i, hi, hz, hsz, hby⟩ := info_parts valinfo
  rw [run_equalIn_array w (d + 2) _ _ Tryz.underlying76 hi]
  have hc : Tryz.prog.cellsOf 42 = 2 := by kernel_rfl
  have hsO : ∀ w, (sizeOf 42).run Tryz.prog w = .ok 2 w := fun w => by kernel_rfl
  have p0 : ∀ w, (part 42 #[.int .i64 a, .int .i64 b, .int .i64 c, .int .i64 e] 0).run Tryz.prog w = .ok (.agg #[.int .i64 a, .int .i64 b]) w := fun w => by
    simp [part, isAgg, run_underlying Tryz.underlying42, hsO]
  have p1 : ∀ w, (part 42 #[.int .i64 a, .int .i64 b, .int .i64 c, .int .i64 e] 2).run Tryz.prog w = .ok (.agg #[.int .i64 c, .int .i64 e]) w := fun w => by
    simp [part, isAgg, run_underlying Tryz.underlying42, hsO]
  simp [hc, List.range_succ, Op.eqItems, p0, p1, val_eq]
set_option maxRecDepth 100000 in
theorem ent_eq (x0 x1 x2 x3 x4 x5 : Int) (w : World) : (Op.equalIn 10000 78 (.agg #[.int .i64 x0, .int .i64 x1, .int .i64 x2, .int .i64 x3, .int .i64 x4, .int .i64 x5]) (.agg #[.int .i64 x0, .int .i64 x1, .int .i64 x2, .int .i64 x3, .int .i64 x4, .int .i64 x5])).run Tryz.prog w = .ok true w := by
  rw [run_equalIn_struct w 9999 78 _ _ (by kernel_rfl) (by kernel_rfl)]
  have hsO : ∀ w, (sizeOf 76).run Tryz.prog w = .ok 4 w := fun w => by kernel_rfl
  have p2 : ∀ w, (part 76 #[.int .i64 x0, .int .i64 x1, .int .i64 x2, .int .i64 x3, .int .i64 x4, .int .i64 x5] 2).run Tryz.prog w = .ok (.agg #[.int .i64 x2, .int .i64 x3, .int .i64 x4, .int .i64 x5]) w := fun w => by
    simp [part, isAgg, run_underlying Tryz.underlying76, hsO]
  have p0 : ∀ w, (part 3 #[.int .i64 x0, .int .i64 x1, .int .i64 x2, .int .i64 x3, .int .i64 x4, .int .i64 x5] 0).run Tryz.prog w = .ok (.int .i64 x0) w := fun w => by
    simp [part, isAgg, run_underlying Tryz.underlying3]
  have p1 : ∀ w, (part 3 #[.int .i64 x0, .int .i64 x1, .int .i64 x2, .int .i64 x3, .int .i64 x4, .int .i64 x5] 1).run Tryz.prog w = .ok (.int .i64 x1) w := fun w => by
    simp [part, isAgg, run_underlying Tryz.underlying3]
  have v := vals_eq 9996 x2 x3 x4 x5 w
  have e0 := run_equalIn_int w 9998 3 .i64 .i64 x0 x0 Tryz.underlying3
  have e1 := run_equalIn_int w 9998 3 .i64 .i64 x1 x1 Tryz.underlying3
  simp [Program.fieldsOf, Tryz.underlying78, Op.eqFields, p0, p1, p2, v, e0, e1]
theorem ent_neq (x0 x1 x2 x3 x4 x5 : Int) (w : World) : (binOp .neq 78 (.agg #[.int .i64 x0, .int .i64 x1, .int .i64 x2, .int .i64 x3, .int .i64 x4, .int .i64 x5]) (.agg #[.int .i64 x0, .int .i64 x1, .int .i64 x2, .int .i64 x3, .int .i64 x4, .int .i64 x5])).run Tryz.prog w = .ok (.bool false) w := by
  simp [binOp, Op.equal, Op.maxDepth, ent_eq]
end Go.Proofs.YthfibggbipkmfaaGreat
namespace Go.Proofs.YthfibggbipkmfaaGreat
open Go.RowKit Go.Fb
/-- The cells of an entry. -/
def entC (x : Nat → Int) : List Value := [.int .i64 (x 0), .int .i64 (x 1), .int .i64 (x 2), .int .i64 (x 3), .int .i64 (x 4), .int .i64 (x 5)]
def cellsE (l : List (Nat → Int)) : List Value := l.flatMap entC
theorem entC_get (x : Nat → Int) : ∀ j, j < 6 → (entC x)[j]? = some (.int .i64 (x j))
  | 0, _ => rfl
  | 1, _ => rfl
  | 2, _ => rfl
  | 3, _ => rfl
  | 4, _ => rfl
  | 5, _ => rfl
  | j + 6, h => by omega
theorem cellsE_get : ∀ {l : List (Nat → Int)} {k : Nat} {x : Nat → Int}, l[k]? = some x → ∀ j, j < 6 → (cellsE l)[k * 6 + j]? = some (.int .i64 (x j))
  | [], k, x, h, _, _ => by simp at h
  | y :: l, 0, x, h, j, hj => by
    simp at h
    subst h
    rw [cellsE, List.flatMap_cons, Nat.zero_mul, Nat.zero_add, List.getElem?_append_left (by simp [entC]; omega)]
    exact entC_get y j hj
  | y :: l, k + 1, x, h, j, hj => by
    rw [cellsE, List.flatMap_cons, List.getElem?_append_right (by simp [entC]; omega)]
    have ih := cellsE_get (l := l) (k := k) (x := x) (by simpa using h) j hj
    have e : (k + 1) * 6 + j - (entC y).length = k * 6 + j := by simp [entC]; omega
    rw [e]
    exact ih
theorem reads_ent {w : World} {B : Nat} {A : Option Addr} {l : List (Nat → Int)} (h : Reads w B 6 A l.length (cellsE l)) {k : Nat} {x : Nat → Int} (hx : l[k]? = some x) :
    ∃ b off, A = some ⟨b, off, none⟩ ∧ b < B ∧ ∀ j, j < 6 → w.cell? ⟨b, off + (k * 6 + j), none⟩ = some (.int .i64 (x j)) := by
  have hk : k < l.length := by
    rcases Nat.lt_or_ge k l.length with h | h
    · exact h
    · rw [List.getElem?_eq_none h] at hx; cases hx
  obtain ⟨b, off, e, hb, hc⟩ := h.2 (by omega)
  exact ⟨b, off, e, hb, fun j hj => hc _ _ (cellsE_get hx j hj)⟩
set_option maxRecDepth 100000 in
theorem same_yes {w : World} {B1 B2 : Nat} {A1 A2 : Option Addr} {c1 c2 : Nat} {l : List (Nat → Int)} (h1 : Reads w B1 6 A1 l.length (cellsE l)) (h2 : Reads w B2 6 A2 l.length (cellsE l)) (_hl : l.length ≤ 1000000) :
    Calls Tryz.prog 14 #[.slice A1 l.length c1, .slice A2 l.length c2] w fun e w' => e = .returned (.bool true) ∧ Fr w.heap.size [] w w' := by
  have H1 := Lib.hid h1
  have H2 := Lib.hid h2
  have HX := Lib.hid (fun (k : Nat) (hk : k < l.length) => (⟨l[k], List.getElem?_eq_getElem hk⟩ : ∃ x, l[k]? = some x))
  clear h1 h2
  generalize hn : l.length = n at *
  have HN := Lib.hid hn
  clear hn
  go_enter Tryz.func14, Tryz.ntmps14
  go_wp2_with fail
  go_loopw [5] (fun i wr => ∃ (k m : Nat), k ≤ n ∧ i = .int .i64 k ∧ wr = w.drewN m) (fun i _ => n - (intOf i).toNat)
  case atStart => exact ⟨0, 0, by omega, rfl, rfl⟩
  case round =>
    obtain ⟨k, m, hk, rfl, rfl⟩ := hrel
    by_cases hkn : k < n
    · obtain ⟨x, hx⟩ := HX.out k hkn
      obtain ⟨b1, o1, rfl, hb1, hc1⟩ := reads_ent (by rw [HN.out]; exact H1.out) hx
      obtain ⟨b2, o2, rfl, hb2, hc2⟩ := reads_ent (by rw [HN.out]; exact H2.out) hx
      have p0 := hc1 0 (by omega)
      have p1 := hc1 1 (by omega)
      have p2 := hc1 2 (by omega)
      have p3 := hc1 3 (by omega)
      have p4 := hc1 4 (by omega)
      have p5 := hc1 5 (by omega)
      have q0 := hc2 0 (by omega)
      have q1 := hc2 1 (by omega)
      have q2 := hc2 2 (by omega)
      have q3 := hc2 3 (by omega)
      have q4 := hc2 4 (by omega)
      have q5 := hc2 5 (by omega)
      simp only [Nat.add_zero, ← Nat.add_assoc] at p0 p1 p2 p3 p4 p5 q0 q1 q2 q3 q4 q5
      have hki : (k : Int) < (n : Int) := by omega
      have hnq := fun w => ent_neq (x 0) (x 1) (x 2) (x 3) (x 4) (x 5) w
      clear hc1 hc2 hx
      go_wp2_with fail
      go_quiet (fail)
      go_wp2_with fail
      go_roundw
      case rel => exact ⟨k + 1, _, by omega, by go_num, rfl⟩
      case measure => simp [intOf]; omega
    · obtain rfl : k = n := by omega
      go_wp2_with fail
      go_ret
      exact ⟨rfl, (Fr.refl _ _ _).drewN _⟩
end Go.Proofs.YthfibggbipkmfaaGreat
namespace Go.Proofs.YthfibggbipkmfaaGreat
open Go.RowKit Go.Fb

/-- Is a route right? -/
def inTo (p : Int) (r : Nat → Int) (n : Nat) : Bool := (List.range n).all fun k => decide (0 ≤ r k ∧ r k < p)
def right8 (p : Int) (r : Nat → Int) : Bool := decide (1 ≤ p ∧ p ≤ 3) && inTo p r 8

theorem group_any (k : Int) (w : World) : Calls Tryz.prog 161 #[.int .i64 k] w fun e w' => e = .returned (.int .i64 (k % 8)) ∧ w = w' := by
  have t1 : k = 8 * k.tdiv 8 + k.tmod 8 := (Int.mul_tdiv_add_tmod k 8).symm
  have t2 : -8 < k.tmod 8 ∧ k.tmod 8 < 8 := by
    rcases Int.le_total 0 k with h | h
    · rw [Int.tmod_eq_emod_of_nonneg h]; omega
    · have := Int.neg_tmod k 8
      have h2 : (-k).tmod 8 = (-k) % 8 := Int.tmod_eq_emod_of_nonneg (by omega)
      omega
  obtain ⟨t3, t4⟩ := t2
  have T := Lib.hid t1
  clear t1
  go_enter Tryz.func161, Tryz.ntmps161
  go_wp2_with fail
  go_ret
  have h := T.out
  have hv : (k.tmod 8 + 8) % 8 = k % 8 := by omega
  exact ⟨by rw [← hv]; rfl, rfl⟩
end Go.Proofs.YthfibggbipkmfaaGreat
namespace Go.Proofs.YthfibggbipkmfaaGreat
open Go.RowKit Go.Fb

theorem intsTy : SliceTy Tryz.prog 45 3 1 8 := SliceTy.mk' (z := .int .i64 0) Tryz.underlying45 (by kernel_rfl) rfl (by omega)
end Go.Proofs.YthfibggbipkmfaaGreat
namespace Go.Proofs.YthfibggbipkmfaaGreat
open Go.RowKit Go.Fb
set_option linter.unusedVariables false
def dV : Value := .bool false
def pzI (p : Int) : List Int → Nat → Option Nat
  | [], _ => none
  | x :: l, i => if p = x then some i else pzI p l (i + 1)
theorem pzI_some {p : Int} : ∀ {K : List Int} {i j : Nat}, pzI p K i = some j → i ≤ j ∧ K[j - i]? = some p
  | [], i, j, h => by simp [pzI] at h
  | x :: l, i, j, h => by
    unfold pzI at h
    split at h
    · rename_i hp
      injection h with h
      subst h
      subst hp
      exact ⟨Nat.le_refl _, by simp⟩
    · obtain ⟨a, b⟩ := pzI_some h
      refine ⟨by omega, ?_⟩
      rw [show j - i = (j - (i + 1)) + 1 by omega, List.getElem?_cons_succ]
      exact b
theorem pzI_none {p : Int} : ∀ {K : List Int} {i : Nat}, pzI p K i = none → p ∉ K
  | [], _, _ => by simp
  | x :: l, i, h => by
    unfold pzI at h
    split at h
    · cases h
    · rename_i hp
      rw [List.mem_cons]
      rintro (e | e)
      · exact hp e
      · exact pzI_none h e
structure IEs (es : Array MapEntry) (clock : Nat) (K : List Int) (T : Int → Option Value) : Prop where
  old : ∀ x ∈ es.toList, x.born < clock
  born : (es.toList.map (·.born)).Nodup
  nd : K.Nodup
  mem : ∀ p, p ∈ K ↔ T p ≠ none
  kv : es.toList.map (fun e => (e.key, e.val)) = K.map (fun p => (Value.int .i64 p, (T p).getD dV))
theorem inow (T : Int → Option Value) (x : Int) : ∀ (es : List MapEntry) (K : List Int) (i : Nat), es.map (fun e => (e.key, e.val)) = K.map (fun p => (Value.int .i64 p, (T p).getD dV)) →
    Instr.findNow (.int .i64) (.int .i64 x) es i = some (match pzI x K i with | none => none | some j => some (j, (T x).getD dV))
  | [], [], _, _ => rfl
  | [], _ :: _, _, h => by simp at h
  | e :: es, [], _, h => by simp at h
  | e :: es, k :: ks, i, h => by
    simp only [List.map_cons, List.cons.injEq, Prod.mk.injEq] at h
    obtain ⟨⟨h1, h2⟩, h3⟩ := h
    unfold pzI
    by_cases c : x = k
    · rw [if_pos c]
      subst c
      simp [Instr.findNow, h1, Instr.sameNow, h2]
    · rw [if_neg c]
      have hc : (x == k) = false := by rw [beq_eq_false_iff_ne]; exact c
      simp [Instr.findNow, h1, Instr.sameNow, hc, inow T x es ks (i + 1) h3]
def IMap (w : World) (r : Nat) (T : Int → Option Value) : Prop := ∃ K es clock, w.heap[r]? = some (.map es clock) ∧ IEs es clock K T
def setI (w : World) (r : Nat) (o : Obj) : World := { w with heap := w.heap.setIfInBounds r o }
theorem setI_fr (w : World) (r : Nat) (o : Obj) : Fr w.heap.size [r] w (setI w r o) :=
  ⟨rfl, rfl, rfl, by simp [setI], fun k _ hk => by
    have : r ≠ k := fun h => hk (by simp [h])
    simp [setI, this]⟩
theorem setI_new {w : World} {r : Nat} (h : r < w.heap.size) (o : Obj) : (setI w r o).heap[r]? = some o := by simp [setI, h]
theorem setI_size (w : World) (r : Nat) (o : Obj) : (setI w r o).heap.size = w.heap.size := by simp [setI]
def updI (T : Int → Option Value) (x : Int) (v : Value) : Int → Option Value := fun q => if q = x then some v else T q
section
variable {w w' : World} {r : Nat} {T : Int → Option Value}
theorem IMap.lt (h : IMap w r T) : r < w.heap.size := by
  obtain ⟨K, es, clock, hb, _⟩ := h
  rcases Nat.lt_or_ge r w.heap.size with h | h
  · exact h
  · rw [Array.getElem?_eq_none h] at hb; cases hb
theorem IMap.new (w : World) : IMap (w.alloc (.map #[] 0)) w.heap.size (fun _ => none) := ⟨[], #[], 0, heap_alloc_new w _, by simp, by simp, List.nodup_nil, by simp, rfl⟩
theorem IMap.fr {B : Nat} {L : List Nat} (h : IMap w r T) (hf : Fr B L w w') (h1 : r < B) (h2 : r ∉ L) : IMap w' r T := by
  obtain ⟨K, es, clock, hb, he⟩ := h
  exact ⟨K, es, clock, (hf.block r h1 h2).trans hb, he⟩
theorem IMap.ne {g t : Nat} {cs : Array Value} (h : IMap w r T) (hb : Blk w g t cs) : r ≠ g := by
  rintro rfl
  obtain ⟨K, es, clock, h1, _⟩ := h
  unfold Blk at hb
  rw [h1] at hb
  cases hb
theorem IMap.ne_own {base e size n : Nat} {v : Value} {xs : List Value} (h : IMap w r T) (ho : w.ownsRow base e size v n xs) : some r ≠ v.ownBlock := by
  intro he
  rcases ho.2 with ⟨rfl, _⟩ | ⟨g', cap, cur, rfl, _, hgg, _⟩
  · cases he
  · have he' : r = g' := by simpa [Value.ownBlock] using he
    subst he'
    obtain ⟨K, es, clock, h1, _⟩ := h
    rw [h1] at hgg
    cases hgg
theorem ikey (b : Bool) (x : Int) (w : World) : (Instr.checkKey b 10000 3 (.int .i64 x)).run Tryz.prog w = .ok () w :=
  MapKept.run_checkKey (k := .int .i64 x) Tryz.underlying3 (by simp [MapKept.IsKey]) b 9999
theorem istays (x : Int) (w : World) : (Instr.keyThatStays (.int .i64 x) (.int .i64 x)).run Tryz.prog w = .ok (.int .i64 x) w := by
  have h : Instr.sameBits 10000 (.int .i64 x) (.int .i64 x) = true := by
    rw [show (10000 : Nat) = 9999 + 1 from rfl]
    simp [Instr.sameBits]
  unfold Instr.keyThatStays
  rw [if_pos h]
  rfl
theorem IMap.look {mt vt : TypeId} {z : Value} (hu : Tryz.prog.underlying mt = some (TypeDesc.map 3 vt)) (hz : ∀ u, (zeroValue vt).run Tryz.prog u = .ok z u) (h : IMap w r T) (x : Int) :
    (Instr.lookup mt (.map (some r)) (.int .i64 x) false).run Tryz.prog w = .ok ((T x).getD z) w := by
  obtain ⟨K, es, clock, hb, he⟩ := h
  have hc := fun b => ikey b x w
  have hf := MapKept.run_findKey (P := Tryz.prog) (w := w) Tryz.underlying3 (inow T x es.toList K 0 he.kv)
  cases hm : pzI x K 0 with
  | none =>
    rw [hm] at hf
    have hx := pzI_none hm
    have hT : T x = none := Classical.byContradiction fun c => hx ((he.mem x).2 c)
    rw [hT]
    simp [Instr.lookup, run_underlying hu, MapKept.run_getObj_map hb, hc, hf, hz, Result.andThen]
  | some y =>
    rw [hm] at hf
    obtain ⟨_, g2⟩ := pzI_some hm
    have hT := (he.mem x).1 (List.mem_of_getElem? g2)
    obtain ⟨v, hv⟩ := Option.ne_none_iff_exists'.1 hT
    rw [hv] at hf ⊢
    simp [Instr.lookup, run_underlying hu, MapKept.run_getObj_map hb, hc, hf, Result.andThen]
theorem ies_push {es : Array MapEntry} {clock : Nat} {K : List Int} {T : Int → Option Value} (he : IEs es clock K T) {x : Int} (hx : x ∉ K) (v : Value) : IEs (es.push { key := .int .i64 x, val := v, born := clock }) (clock + 1) (K ++ [x]) (updI T x v) := by
  refine ⟨?_, ?_, ?_, ?_, ?_⟩
  · intro y hy
    rw [Array.toList_push, List.mem_append, List.mem_singleton] at hy
    rcases hy with hy | rfl
    · have := he.old y hy; omega
    · show clock < clock + 1; omega
  · rw [Array.toList_push, List.map_append]
    refine List.nodup_append.2 ⟨he.born, by simp, fun a ha c hc e1 => ?_⟩
    simp at hc
    obtain ⟨y, hy, rfl⟩ := List.mem_map.1 ha
    have := he.old y hy
    omega
  · rw [List.nodup_append]
    exact ⟨he.nd, by simp, fun a ha b hb => by rw [List.mem_singleton] at hb; rw [hb]; exact fun e => hx (e ▸ ha)⟩
  · intro p
    unfold updI
    rw [List.mem_append, List.mem_singleton, he.mem]
    by_cases e : p = x
    · rw [if_pos e]; simp [e]
    · rw [if_neg e]; simp [e]
  · rw [Array.toList_push, List.map_append, List.map_append, he.kv]
    congr 1
    · refine List.map_congr_left fun p hp => ?_
      unfold updI
      have hne : p ≠ x := fun e => hx (e ▸ hp)
      rw [if_neg hne]
    · simp [updI]
theorem ies_set {es : Array MapEntry} {clock : Nat} {K : List Int} {T : Int → Option Value} (he : IEs es clock K T) {x : Int} {y : Nat} {e0 : MapEntry} (g2 : K[y]? = some x) (he0 : es.toList[y]? = some e0) (hk0 : e0.key = .int .i64 x) (v : Value) {es' : Array MapEntry} (hml : es'.toList = es.toList.set y { e0 with val := v }) : IEs es' clock K (updI T x v) := by
  have hyl : y < K.length := (List.getElem?_eq_some_iff.1 g2).1
  refine ⟨?_, ?_, he.nd, ?_, ?_⟩
  · intro z hz
    rw [hml] at hz
    rcases List.mem_or_eq_of_mem_set hz with hz | rfl
    · exact he.old z hz
    · exact he.old e0 (List.mem_of_getElem? he0)
  · rw [hml, List.map_set]
    show (List.set _ y e0.born).Nodup
    rw [Go.WideElems.set_self _ _ _ (by rw [List.getElem?_map, he0]; rfl)]
    exact he.born
  · intro p
    unfold updI
    rw [he.mem]
    by_cases e : p = x
    · rw [if_pos e]
      have := (he.mem x).1 (List.mem_of_getElem? g2)
      simp [e, this]
    · rw [if_neg e]
  · rw [hml, List.map_set, he.kv]
    refine List.ext_getElem? fun j => ?_
    rw [List.getElem?_set, List.getElem?_map, List.getElem?_map]
    by_cases hjy : y = j
    · subst hjy
      rw [if_pos rfl, List.length_map, if_pos hyl, g2]
      simp [updI, hk0]
    · rw [if_neg hjy]
      cases hp : K[j]? with
      | none => rfl
      | some p =>
        have : p ≠ x := fun e => by
          subst e
          obtain ⟨i1, e1⟩ := List.getElem?_eq_some_iff.1 g2
          obtain ⟨i2, e2⟩ := List.getElem?_eq_some_iff.1 hp
          exact hjy ((List.getElem_inj he.nd).1 (e1.trans e2.symm))
        simp [updI, this]
theorem ies_at {es : Array MapEntry} {clock : Nat} {K : List Int} {T : Int → Option Value} (he : IEs es clock K T) {x : Int} {y : Nat} (hm : pzI x K 0 = some y) : ∃ e0, es.toList[y]? = some e0 ∧ K[y]? = some x ∧ e0.key = .int .i64 x ∧ e0.val = (T x).getD dV := by
  obtain ⟨_, g2⟩ := pzI_some hm
  rw [Nat.sub_zero] at g2
  have hlen : es.toList.length = K.length := by have := congrArg List.length he.kv; simpa using this
  have hyl : y < K.length := (List.getElem?_eq_some_iff.1 g2).1
  obtain ⟨e0, he0⟩ : ∃ e0, es.toList[y]? = some e0 := ⟨_, List.getElem?_eq_getElem (by omega)⟩
  have a : (es.toList.map (fun e => (e.key, e.val)))[y]? = some (e0.key, e0.val) := by rw [List.getElem?_map, he0]; rfl
  rw [he.kv, List.getElem?_map, g2] at a
  have hkv : (e0.key, e0.val) = (Value.int .i64 x, (T x).getD dV) := by simpa using a.symm
  exact ⟨e0, he0, g2, congrArg Prod.fst hkv, congrArg Prod.snd hkv⟩
theorem IMap.upd {mt vt : TypeId} (hu : Tryz.prog.underlying mt = some (TypeDesc.map 3 vt)) (h : IMap w r T) (x : Int) (v : Value) :
    ∃ w', (Instr.mapUpdate mt (.map (some r)) (.int .i64 x) v).run Tryz.prog w = .ok () w' ∧ IMap w' r (updI T x v) ∧ Fr w.heap.size [r] w w' ∧ w'.heap.size = w.heap.size := by
  have hlt := h.lt
  obtain ⟨K, es, clock, hb, he⟩ := h
  have hc := fun b => ikey b x w
  have hf := MapKept.run_findKey (P := Tryz.prog) (w := w) Tryz.underlying3 (inow T x es.toList K 0 he.kv)
  cases hm : pzI x K 0 with
  | none =>
    rw [hm] at hf
    refine ⟨setI w r (.map (es.push { key := .int .i64 x, val := v, born := clock }) (clock + 1)), ?_, ⟨K ++ [x], _, _, setI_new hlt _, ies_push he (pzI_none hm) v⟩, setI_fr _ _ _, setI_size _ _ _⟩
    simp [Instr.mapUpdate, run_underlying hu, MapKept.run_getObj_map hb, hc, hf, MapKept.run_setObj_map _ hb, Result.andThen, setI]
  | some y =>
    rw [hm] at hf
    obtain ⟨e0, he0, g2, hk0, hv0⟩ := ies_at he hm
    have hj : es[y]? = some e0 := by simpa using he0
    have hml : (es.modify y (fun e => { e with key := .int .i64 x, val := v })).toList = es.toList.set y { e0 with val := v } := by
      rw [Array.toList_modify, Go.ChangeMaps.modify_eq_set _ _ _ _ he0, ← hk0]
    refine ⟨setI w r (.map (es.modify y (fun e => { e with key := .int .i64 x, val := v })) clock), ?_, ⟨K, _, _, setI_new hlt _, ies_set he g2 he0 hk0 v hml⟩, setI_fr _ _ _, setI_size _ _ _⟩
    simp [Instr.mapUpdate, run_underlying hu, MapKept.run_getObj_map hb, hc, hf, hj, hk0, istays, MapKept.run_setObj_map _ hb, Result.andThen, setI]
/-- m[x] in a parallel assignment: the entry is got, and stored behind. -/
theorem IMap.entry {mt vt : TypeId} {z : Value} (hu : Tryz.prog.underlying mt = some (TypeDesc.map 3 vt)) (hz : ∀ u, (zeroValue vt).run Tryz.prog u = .ok z u) (h : IMap w r T) (x : Int) :
    ∃ (st : Int) (w1 : World), (Instr.mapEntry mt (.map (some r)) (.int .i64 x)).run Tryz.prog w = .ok (.tuple #[(T x).getD z, .int .i64 st]) w1 ∧ Fr w.heap.size [r] w w1 ∧ w1.heap.size = w.heap.size ∧
      ∀ (w2 : World) (v : Value), w2.heap[r]? = w1.heap[r]? → ∃ w3, (Instr.entryStore mt (.map (some r)) (.int .i64 st) v).run Tryz.prog w2 = .ok () w3 ∧ IMap w3 r (updI T x v) ∧ Fr w2.heap.size [r] w2 w3 ∧ w3.heap.size = w2.heap.size := by
  have hlt := h.lt
  obtain ⟨K, es, clock, hb, he⟩ := h
  have hc := fun b => ikey b x w
  have hf := MapKept.run_findKey (P := Tryz.prog) (w := w) Tryz.underlying3 (inow T x es.toList K 0 he.kv)
  cases hm : pzI x K 0 with
  | none =>
    rw [hm] at hf
    have hT : T x = none := Classical.byContradiction fun c => pzI_none hm ((he.mem x).2 c)
    rw [hT]
    refine ⟨clock, setI w r (.map (es.push { key := .int .i64 x, val := z, born := clock }) (clock + 1)), ?_, setI_fr _ _ _, setI_size _ _ _, fun w2 v hw2 => ?_⟩
    · simp [Instr.mapEntry, run_underlying hu, MapKept.run_getObj_map hb, hc, hf, hz, MapKept.run_setObj_map _ hb, Result.andThen, setI, goInt]
    · rw [setI_new hlt] at hw2
      have hlt2 : r < w2.heap.size := by
        rcases Nat.lt_or_ge r w2.heap.size with h | h
        · exact h
        · rw [Array.getElem?_eq_none h] at hw2; cases hw2
      have hidx : (es.push ⟨.int .i64 x, z, clock⟩).findIdx? (fun e => ((e.born : Nat) : Int) == ((clock : Nat) : Int)) = some es.size := by
        rw [Go.WideElems.findIdx_arr]
        have := Go.WideElems.findIdx_born (l := (es.push ⟨.int .i64 x, z, clock⟩).toList) (j := es.size) (e0 := ⟨.int .i64 x, z, clock⟩) (ies_push he (pzI_none hm) z).born (by simp)
        exact this
      have hmod : (es.push ⟨.int .i64 x, z, clock⟩).modify es.size (fun e => { e with val := v }) = es.push ⟨.int .i64 x, v, clock⟩ := by
        apply Array.ext'
        rw [Array.toList_modify, Array.toList_push, Array.toList_push, ← Array.length_toList, Go.WideElems.modify_last]
      refine ⟨setI w2 r (.map (es.push ⟨.int .i64 x, v, clock⟩) (clock + 1)), ?_, ⟨K ++ [x], _, _, setI_new hlt2 _, ies_push he (pzI_none hm) v⟩, setI_fr _ _ _, setI_size _ _ _⟩
      simp [Instr.entryStore, MapKept.run_getObj_map hw2, asInt, asIntOf, hidx, hmod, MapKept.run_setObj_map _ hw2, Result.andThen, setI]
  | some y =>
    rw [hm] at hf
    obtain ⟨e0, he0, g2, hk0, hv0⟩ := ies_at he hm
    have hj : es[y]? = some e0 := by simpa using he0
    have hT := (he.mem x).1 (List.mem_of_getElem? g2)
    obtain ⟨v0, hv⟩ := Option.ne_none_iff_exists'.1 hT
    rw [hv] at hf ⊢
    have hsame : es.modify y (fun e => { e with key := .int .i64 x }) = es := by
      apply Array.ext'
      rw [Array.toList_modify, Go.ChangeMaps.modify_eq_set _ _ _ _ he0]
      have : ({ e0 with key := .int .i64 x } : MapEntry) = e0 := by rw [← hk0]
      rw [this]
      exact Go.WideElems.set_self _ _ _ he0
    refine ⟨e0.born, setI w r (.map es clock), ?_, setI_fr _ _ _, setI_size _ _ _, fun w2 v hw2 => ?_⟩
    · simp [Instr.mapEntry, run_underlying hu, MapKept.run_getObj_map hb, hc, hf, hj, hk0, istays, hsame, MapKept.run_setObj_map _ hb, Result.andThen, setI, goInt]
    · rw [setI_new hlt] at hw2
      have hlt2 : r < w2.heap.size := by
        rcases Nat.lt_or_ge r w2.heap.size with h | h
        · exact h
        · rw [Array.getElem?_eq_none h] at hw2; cases hw2
      have hidx : es.findIdx? (fun e => ((e.born : Nat) : Int) == ((e0.born : Nat) : Int)) = some y := by
        rw [Go.WideElems.findIdx_arr]
        exact Go.WideElems.findIdx_born he.born he0
      have hml : (es.modify y (fun e => { e with val := v })).toList = es.toList.set y { e0 with val := v } := by
        rw [Array.toList_modify, Go.ChangeMaps.modify_eq_set _ _ _ _ he0]
      refine ⟨setI w2 r (.map (es.modify y (fun e => { e with val := v })) clock), ?_, ⟨K, _, _, setI_new hlt2 _, ies_set he g2 he0 hk0 v hml⟩, setI_fr _ _ _, setI_size _ _ _⟩
      simp [Instr.entryStore, MapKept.run_getObj_map hw2, asInt, asIntOf, hidx, MapKept.run_setObj_map _ hw2, Result.andThen, setI]
end
end Go.Proofs.YthfibggbipkmfaaGreat
namespace Go.Proofs.YthfibggbipkmfaaGreat
open Go.RowKit Go.Fb
structure Nd where
  id : Int
  kind : Int
  par : Int
  fr : List Int
  pg : List (Int × Int)
  rt : Nat → Int
/-- A node with the two slices that it holds. -/
abbrev Ndm := Nd × Value × Value
abbrev ndA (x : Nd) (sf sp : Value) : Array Value := #[.int .i64 x.id, .int .i64 x.kind, sf, sp, .int .i64 x.par, .int .i64 (x.rt 0), .int .i64 (x.rt 1), .int .i64 (x.rt 2), .int .i64 (x.rt 3), .int .i64 (x.rt 4), .int .i64 (x.rt 5), .int .i64 (x.rt 6), .int .i64 (x.rt 7)]
def ndL (m : Ndm) : List Value := (ndA m.1 m.2.1 m.2.2).toList
def cellsN (M : List Ndm) : List Value := M.flatMap ndL
theorem cellsN_length (M : List Ndm) : (cellsN M).length = M.length * 13 := by
  unfold cellsN
  induction M with
  | nil => rfl
  | cons x M ih => rw [List.flatMap_cons, List.length_append, ih]; simp [ndL]; omega
theorem cellsN_app (a b : List Ndm) : cellsN (a ++ b) = cellsN a ++ cellsN b := by simp [cellsN]
theorem cellsN_get : ∀ {M : List Ndm} {k : Nat} {m : Ndm}, M[k]? = some m → ∀ j, j < 13 → (cellsN M)[k * 13 + j]? = (ndL m)[j]?
  | [], k, x, h, _, _ => by simp at h
  | y :: l, 0, x, h, j, hj => by
    simp at h
    subst h
    rw [cellsN, List.flatMap_cons, Nat.zero_mul, Nat.zero_add, List.getElem?_append_left (by simp [ndL]; omega)]
  | y :: l, k + 1, x, h, j, hj => by
    rw [cellsN, List.flatMap_cons, List.getElem?_append_right (by simp [ndL]; omega)]
    have ih := cellsN_get (M := l) (k := k) (m := x) (by simpa using h) j hj
    have e : (k + 1) * 13 + j - (ndL y).length = k * 13 + j := by simp [ndL]; omega
    rw [e]
    exact ih
/-- What a node's two slices read. -/
structure NdIn (w : World) (B : Nat) (m : Ndm) : Prop where
  fr : ∃ A c, m.2.1 = .slice A m.1.fr.length c ∧ Reads w B 1 A m.1.fr.length (m.1.fr.map (Value.int .i64))
  pg : ∃ A c, m.2.2 = .slice A m.1.pg.length c ∧ Reads w B 2 A m.1.pg.length (cellsI m.1.pg)
theorem NdIn.frw {w w' : World} {B B' : Nat} {L : List Nat} {m : Ndm} (h : NdIn w B m) (hf : Fr B' L w w') (hB : B ≤ B') (hL : ∀ k ∈ L, B ≤ k) : NdIn w' B m := by
  obtain ⟨⟨A, c, h1, h2⟩, ⟨A', c', h3, h4⟩⟩ := h
  exact ⟨⟨A, c, h1, h2.fr hf hB hL⟩, ⟨A', c', h3, h4.fr hf hB hL⟩⟩
theorem NdIn.more {w : World} {B B' : Nat} {m : Ndm} (h : NdIn w B m) (hB : B ≤ B') : NdIn w B' m := by
  obtain ⟨⟨A, c, h1, h2⟩, ⟨A', c', h3, h4⟩⟩ := h
  exact ⟨⟨A, c, h1, h2.more hB⟩, ⟨A', c', h3, h4.more hB⟩⟩
/-- A list of nodes that a slice reads. -/
structure Nds (w : World) (B : Nat) (A : Option Addr) (n : Nat) (M : List Ndm) : Prop where
  num : n = M.length
  rd : Reads w B 13 A n (cellsN M)
  inn : ∀ m ∈ M, NdIn w B m
theorem Nds.frw {w w' : World} {B B' n : Nat} {A : Option Addr} {L : List Nat} {M : List Ndm} (h : Nds w B A n M) (hf : Fr B' L w w') (hB : B ≤ B') (hL : ∀ k ∈ L, B ≤ k) : Nds w' B A n M :=
  ⟨h.num, h.rd.fr hf hB hL, fun m hm => (h.inn m hm).frw hf hB hL⟩
theorem Nds.more {w : World} {B B' n : Nat} {A : Option Addr} {M : List Ndm} (h : Nds w B A n M) (hB : B ≤ B') : Nds w B' A n M :=
  ⟨h.num, h.rd.more hB, fun m hm => (h.inn m hm).more hB⟩
theorem Nds.get {w : World} {B n : Nat} {A : Option Addr} {M : List Ndm} (h : Nds w B A n M) {k : Nat} {m : Ndm} (hk : M[k]? = some m) :
    ∃ b off, A = some ⟨b, off, none⟩ ∧ b < B ∧ ∀ j u, (ndL m)[j]? = some u → w.cell? ⟨b, off + k * 13 + j, none⟩ = some u := by
  have hkn : k < n := by
    rw [h.num]
    rcases Nat.lt_or_ge k M.length with h | h
    · exact h
    · rw [List.getElem?_eq_none h] at hk; cases hk
  obtain ⟨b, off, e, hb, hc⟩ := h.rd.2 (by omega)
  refine ⟨b, off, e, hb, fun j u hu => ?_⟩
  have hj : j < 13 := by
    rcases Nat.lt_or_ge j 13 with h | h
    · exact h
    · rw [List.getElem?_eq_none (by simp [ndL]; omega)] at hu; cases hu
  rw [Nat.add_assoc]
  exact hc _ u (by rw [cellsN_get hk j hj]; exact hu)
theorem iowns_empty (w : World) : (w.alloc (.cells #[] 3)).ownsRow w.heap.size 3 1 (.slice (some ⟨w.heap.size, 0, none⟩) 0 0) 0 [] := by
  refine ⟨rfl, .inr ⟨w.heap.size, 0, #[], rfl, Nat.le_refl _, Blk.new _ _ _, ?_⟩⟩
  simp
theorem ints_nil (A : Option Addr) (n c : Nat) (w : World) : (binOp .eql 45 (.slice A n c) (.slice none 0 0)).run Tryz.prog w = .ok (.bool A.isNone) w := by
  simp only [binOp]
  simp [run_equal_slice_nil w _ _ A n c Tryz.underlying45]
theorem intC_one {l : List Int} : ∀ u ∈ l.map (Value.int .i64), u.oneCell' = true := by
  intro u hu
  obtain ⟨x, _, rfl⟩ := List.mem_map.1 hu
  rfl
set_option maxRecDepth 100000 in
theorem iclone_any (A : Option Addr) (n c B : Nat) (l : List Int) (w : World) (hl : n = l.length) (hn : n ≤ 1000000) (hr : Reads w B 1 A n (l.map (Value.int .i64))) (hB : B ≤ w.heap.size) :
    Calls Tryz.prog 67 #[.slice A n c] w fun e w' => ∃ A' c', e = .returned (.slice A' n c') ∧ w'.ownsRow w.heap.size 3 1 (.slice A' n c') n (l.map (Value.int .i64)) ∧ Fr w.heap.size [] w w' := by
  rcases A with _ | ad
  · have h0 : n = 0 := by
      rcases Nat.eq_zero_or_pos n with h | h
      · exact h
      · obtain ⟨b, off, e, _⟩ := hr.2 h
        cases e
    subst h0
    have hle : l = [] := List.eq_nil_of_length_eq_zero hl.symm
    subst hle
    have hq : ∀ w, (binOp .eql 45 (.slice none 0 c) (.slice none 0 0)).run Tryz.prog w = .ok (.bool true) w := ints_nil none 0 c
    clear hr hn hl
    go_enter Tryz.func67, Tryz.ntmps67
    go_wp2_with fail
    go_ret
    exact ⟨none, 0, rfl, World.ownsRow_nil _ _ _ _, Fr.refl _ _ _⟩
  · have ho := iowns_empty w
    have hf := (Fr.refl w.heap.size [] w).alloc (Nat.le_refl _) (.cells #[] 3)
    have hr1 := hr.fr hf hB (by simp)
    have hs : w.heap.size < (w.alloc (.cells #[] 3)).heap.size := by simp
    have hq : ∀ w, (binOp .eql 45 (.slice (some ad) n c) (.slice none 0 0)).run Tryz.prog w = .ok (.bool false) w := ints_nil (some ad) n c
    clear hr hl
    go_enter Tryz.func67, Tryz.ntmps67
    go_wp2_with (at_builtin; refine wpList_app _ rfl (.tmp 5) (.tmp 6) intsTy rfl w.heap.size (.slice (some ⟨w.heap.size, 0, none⟩) 0 0) 0 [] rfl ho B _ n _ (l.map (Value.int .i64)) rfl hr1 intC_one (by omega) (by omega) (by simp) ?_; intro A2 c2 w2 hown2 hg2 hat2)
    go_ret
    rw [Nat.zero_add] at hown2
    exact ⟨A2, c2, rfl, by simpa using hown2, hf.grown hg2 (by simp) (fun k hk => .inl (by simp [Value.ownBlock] at hk; omega))⟩
theorem pgTy : SliceTy Tryz.prog 46 121 2 16 := SliceTy.mk' (z := .agg #[.int .i64 0, .int .i64 0]) Tryz.underlying46 (by kernel_rfl) rfl (by omega)
theorem powns_empty (w : World) : (w.alloc (.cells #[] 121)).ownsRow w.heap.size 121 2 (.slice (some ⟨w.heap.size, 0, none⟩) 0 0) 0 [] := by
  refine ⟨rfl, .inr ⟨w.heap.size, 0, #[], rfl, Nat.le_refl _, Blk.new _ _ _, ?_⟩⟩
  simp
theorem pgs_nil (A : Option Addr) (n c : Nat) (w : World) : (binOp .eql 46 (.slice A n c) (.slice none 0 0)).run Tryz.prog w = .ok (.bool A.isNone) w := by
  simp only [binOp]
  simp [run_equal_slice_nil w _ _ A n c Tryz.underlying46]
theorem insC_one {l : List (Int × Int)} : ∀ u ∈ cellsI l, u.oneCell' = true := by
  intro u hu
  obtain ⟨x, _, hx⟩ := List.mem_flatMap.1 hu
  simp only [insC, List.mem_cons, List.not_mem_nil, or_false] at hx
  rcases hx with rfl | rfl <;> rfl
set_option maxRecDepth 100000 in
theorem pclone_any (A : Option Addr) (n c B : Nat) (l : List (Int × Int)) (w : World) (hl : n = l.length) (hn : n ≤ 1000000) (hr : Reads w B 2 A n (cellsI l)) (hB : B ≤ w.heap.size) :
    Calls Tryz.prog 101 #[.slice A n c] w fun e w' => ∃ A' c', e = .returned (.slice A' n c') ∧ w'.ownsRow w.heap.size 121 2 (.slice A' n c') n (cellsI l) ∧ Fr w.heap.size [] w w' := by
  rcases A with _ | ad
  · have h0 : n = 0 := by
      rcases Nat.eq_zero_or_pos n with h | h
      · exact h
      · obtain ⟨b, off, e, _⟩ := hr.2 h
        cases e
    subst h0
    have hle : l = [] := List.eq_nil_of_length_eq_zero hl.symm
    subst hle
    have hq : ∀ w, (binOp .eql 46 (.slice none 0 c) (.slice none 0 0)).run Tryz.prog w = .ok (.bool true) w := pgs_nil none 0 c
    clear hr hn hl
    go_enter Tryz.func101, Tryz.ntmps101
    go_wp2_with fail
    go_ret
    exact ⟨none, 0, rfl, World.ownsRow_nil _ _ _ _, Fr.refl _ _ _⟩
  · have ho := powns_empty w
    have hf := (Fr.refl w.heap.size [] w).alloc (Nat.le_refl _) (.cells #[] 121)
    have hr1 := hr.fr hf hB (by simp)
    have hs : w.heap.size < (w.alloc (.cells #[] 121)).heap.size := by simp
    have hq : ∀ w, (binOp .eql 46 (.slice (some ad) n c) (.slice none 0 0)).run Tryz.prog w = .ok (.bool false) w := pgs_nil (some ad) n c
    clear hr hl
    go_enter Tryz.func101, Tryz.ntmps101
    go_wp2_with (at_builtin; refine wpList_app _ rfl (.tmp 5) (.tmp 6) pgTy rfl w.heap.size (.slice (some ⟨w.heap.size, 0, none⟩) 0 0) 0 [] rfl ho B _ n _ (cellsI l) rfl hr1 insC_one (by omega) (by omega) (by simp) ?_; intro A2 c2 w2 hown2 hg2 hat2)
    go_ret
    rw [Nat.zero_add] at hown2
    exact ⟨A2, c2, rfl, by simpa using hown2, hf.grown hg2 (by simp) (fun k hk => .inl (by simp [Value.ownBlock] at hk; omega))⟩
end Go.Proofs.YthfibggbipkmfaaGreat
namespace Go.Proofs.YthfibggbipkmfaaGreat
open Go.RowKit Go.Fb
/-- The cells of the rows. -/
def rowsA (par : Nat) (R : Nat → Value) : Array Value := ((List.range par).map R).toArray
theorem rowsA_set {par t : Nat} (R : Nat → Value) (u : Value) (_h : t < par) : (rowsA par R).setIfInBounds t u = rowsA par (fun j => if j = t then u else R j) := by
  apply Array.ext_getElem?
  intro i
  rw [Array.getElem?_setIfInBounds]
  by_cases hi : i < par
  · by_cases e : t = i
    · subst e; simp [rowsA, hi]
    · have e' : ¬ i = t := fun h => e h.symm
      simp [rowsA, hi, e, e']
  · have e : ¬ t = i := by omega
    simp [rowsA, hi, e]
theorem entTy : SliceTy Tryz.prog 51 78 6 48 := SliceTy.mk' (z := .agg #[.int .i64 0, .int .i64 0, .int .i64 0, .int .i64 0, .int .i64 0, .int .i64 0]) Tryz.underlying51 (by kernel_rfl) rfl (by omega)
/-- The rows of the tasks, while they grow. -/
structure PInv (w0 : World) (gr par : Nat) (F : Nat → List (Nat → Int)) (R : Nat → Value) (w : World) : Prop where
  blk : Blk w gr 51 (rowsA par R)
  low : w0.heap.size ≤ gr
  own : ∀ t, t < par → w.ownsRow w0.heap.size 78 6 (R t) (F t).length (cellsE (F t))
  off : ∀ t, t < par → (R t).ownBlock ≠ some gr
  dis : ∀ t u, t < par → u < par → t ≠ u → ∀ q, (R t).ownBlock = some q → (R u).ownBlock ≠ some q
  fr : Fr w0.heap.size [] w0 w
theorem PInv.congr {w0 w : World} {gr par : Nat} {F G : Nat → List (Nat → Int)} {R : Nat → Value} (h : PInv w0 gr par F R w) (e : ∀ t, t < par → F t = G t) : PInv w0 gr par G R w :=
  ⟨h.blk, h.low, fun t ht => by rw [← e t ht]; exact h.own t ht, h.off, h.dis, h.fr⟩
theorem PInv.keep {w0 w w' : World} {gr par : Nat} {F : Nat → List (Nat → Int)} {R : Nat → Value} (h : PInv w0 gr par F R w) (hf : Fr w.heap.size [] w w') : PInv w0 gr par F R w' :=
  ⟨h.blk.fr hf h.blk.lt (by simp), h.low, fun t ht => ownsRow_fr (h.own t ht) hf (fun q hq => ⟨((h.own t ht).lt q hq).2, by simp⟩), h.off, h.dis, h.fr.trans (hf.mono h.fr.size (by simp))⟩
theorem PInv.drewN {w0 w : World} {gr par : Nat} {F : Nat → List (Nat → Int)} {R : Nat → Value} (h : PInv w0 gr par F R w) (m : Nat) : PInv w0 gr par F R (w.drewN m) := h.keep ((Fr.refl _ _ _).drewN m)
/-- One row has grown by an entry, and its header is laid back. -/
theorem PInv.grow {w0 w w' : World} {gr par t : Nat} {F : Nat → List (Nat → Int)} {R : Nat → Value} {x : Nat → Int} {g c : Nat} (h : PInv w0 gr par F R w) (ht : t < par)
    (hown : w'.ownsRow w0.heap.size 78 6 (.slice (some ⟨g, 0, none⟩) ((F t).length + 1) c) ((F t).length + 1) (cellsE (F t) ++ entC x))
    (hg : w.grownBy w' (R t).ownBlock) (hat : (R t).ownBlock = some g ∨ w.heap.size ≤ g) (hlt : g < w'.heap.size) :
    PInv w0 gr par (fun j => F j ++ if j = t then [x] else []) (fun j => if j = t then .slice (some ⟨g, 0, none⟩) ((F t).length + 1) c else R j) (w'.setCell ⟨gr, t, none⟩ (.slice (some ⟨g, 0, none⟩) ((F t).length + 1) c)) := by
  have hgr : g ≠ gr := by
    rcases hat with hat | hat
    · rintro rfl; exact h.off t ht hat
    · have := h.blk.lt; omega
  have hgo : ∀ u, u < par → u ≠ t → (R u).ownBlock ≠ some g := fun u hu hut hq => by
    rcases hat with hat | hat
    · exact h.dis t u ht hu (fun e => hut e.symm) g hat hq
    · have := ((h.own u hu).lt g hq).2; omega
  have hb := (h.blk.grown hg (fun e => h.off t ht e.symm)).set_ t (.slice (some ⟨g, 0, none⟩) ((F t).length + 1) c)
  rw [rowsA_set _ _ ht] at hb
  have fs : Fr w.heap.size [gr] w' (w'.setCell ⟨gr, t, none⟩ (.slice (some ⟨g, 0, none⟩) ((F t).length + 1) c)) := (Fr.refl _ _ _).setCell (.inr (by simp)) _
  have fs' : Fr w'.heap.size [gr] w' (w'.setCell ⟨gr, t, none⟩ (.slice (some ⟨g, 0, none⟩) ((F t).length + 1) c)) := (Fr.refl _ _ _).setCell (.inr (by simp)) _
  refine ⟨hb, h.low, fun u hu => ?_, fun u hu => ?_, fun u v hu hv huv q hq => ?_, ?_⟩
  · by_cases e : u = t
    · subst e
      simp only [↓reduceIte]
      rw [show (F u ++ [x]).length = (F u).length + 1 by simp, show cellsE (F u ++ [x]) = cellsE (F u) ++ entC x by simp [cellsE]]
      refine ownsRow_fr hown fs' (fun q hq => ?_)
      have : q = g := by injection hq with hq; exact hq.symm
      subst this
      exact ⟨hlt, by simpa using hgr⟩
    · simp only [e, ↓reduceIte, List.append_nil]
      have ho : w'.ownsRow w0.heap.size 78 6 (R u) (F u).length (cellsE (F u)) := (h.own u hu).kept hg (by
        cases hq : (R u).ownBlock with
        | none => exact .inl rfl
        | some q => exact .inr fun e' => h.dis u t hu ht e q hq e'.symm)
      exact ownsRow_fr ho fs' (fun q hq => ⟨(ho.lt q hq).2, by simp; rintro rfl; exact h.off u hu hq⟩)
  · by_cases e : u = t
    · subst e
      simp only [↓reduceIte]
      intro hq
      injection hq with hq
      exact hgr hq
    · simp only [e, ↓reduceIte]
      exact h.off u hu
  · by_cases e : u = t
    · subst e
      have e' : ¬ v = u := fun h => huv h.symm
      simp only [↓reduceIte] at hq
      simp only [e', ↓reduceIte]
      injection hq with hq
      have hq' : g = q := hq
      subst hq'
      exact hgo v hv e'
    · simp only [e, ↓reduceIte] at hq
      by_cases e2 : v = t
      · subst e2
        simp only [↓reduceIte]
        intro hq2
        injection hq2 with hq2
        have hq' : g = q := hq2
        subst hq'
        exact hgo u hu e hq
      · simp only [e2, ↓reduceIte]
        exact h.dis u v hu hv huv q hq
  · refine (h.fr.grown hg h.fr.size (fun k hk => .inl ((h.own t ht).lt k hk).1)).trans ?_
    exact (Fr.refl _ _ _).setCell (.inl h.low) _
end Go.Proofs.YthfibggbipkmfaaGreat
namespace Go.Fb
open Go.RowKit
def setL (w : World) (g : Nat) : Nat → List Value → World
  | _, [] => w
  | o, u :: us => setL (w.setCell ⟨g, o, none⟩ u) g (o + 1) us
def putL (cs : Array Value) : Nat → List Value → Array Value
  | _, [] => cs
  | o, u :: us => putL (cs.setIfInBounds o u) (o + 1) us
theorem blk_setL {g t : Nat} : ∀ (us : List Value) (o : Nat) {w : World} {cs : Array Value}, Blk w g t cs → Blk (setL w g o us) g t (putL cs o us)
  | [], _, _, _, h => h
  | u :: us, o, _, _, h => blk_setL us (o + 1) (h.set_ o u)
theorem fr_setL {B g : Nat} {L : List Nat} {a : World} (hg : B ≤ g ∨ g ∈ L) : ∀ (us : List Value) (o : Nat) {w : World}, Fr B L a w → Fr B L a (setL w g o us)
  | [], _, _, h => h
  | u :: us, o, _, h => fr_setL hg us (o + 1) (h.setCell (p := ⟨g, o, none⟩) hg u)
theorem far_setL {g k t : Nat} (hk : k ≠ g) : ∀ (us : List Value) (o : Nat) {w : World} {cs : Array Value}, Blk w k t cs → Blk (setL w g o us) k t cs
  | [], _, _, _, h => h
  | u :: us, o, _, _, h => far_setL hk us (o + 1) (h.far (p := ⟨g, o, none⟩) hk u)
end Go.Fb
namespace Go.Fb
open Go.RowKit
theorem step_app {P : Program} {w : World} {ops : Array Oper} {o : Oper} {a : Act} {K : Act → World → Prop} {Q : Exit → Act → World → Prop} {E : Prop} (hgd : o.guard = none) (s x : Operand) {t e size bytes : Nat} (T : SliceTy P t e size bytes)
    (ho : o.op = .call { callee := .builtin .append, args := #[s, x], argTypes := #[t, t] })
    (base : Nat) (v : Value) (n : Nat) (xs : List Value) (hs : a.eval s = v) (hown : w.ownsRow base e size v n xs)
    (B : Nat) (A : Option Addr) (m c : Nat) (news : List Value) (hx : a.eval x = .slice A m c) (hr : Reads w B size A m news) (h1 : ∀ u ∈ news, u.oneCell' = true)
    (h63 : n + m ≤ 1073741824) (hb : bytes ≤ 131072) (hbase : base ≤ w.heap.size)
    (h : ∀ A' c' w', w'.ownsRow base e size (.slice A' (n + m) c') (n + m) (xs ++ news) → w.grownBy w' v.ownBlock →
      (Value.ownBlock (.slice A' (n + m) c') = v.ownBlock ∨ Value.ownBlock (.slice A' (n + m) c') = some w.heap.size) → K (a.put o.dst (.slice A' (n + m) c')) w') :
    if Region.wanted o (yielded ops a.tmps) = true then Oper.wp P o a w K Q else E := by
  have hw : Region.wanted o (yielded ops a.tmps) = true := by simp [Region.wanted, hgd]
  rw [if_pos hw]
  exact wp_app w s x T ho base v n xs hs hown B A m c news hx hr h1 h63 hb hbase h
end Go.Fb
namespace Go.Proofs.YthfibggbipkmfaaGreat
open Go.RowKit Go.Fb
def CapN (M : List Ndm) : Prop := ∀ m ∈ M, ∀ A n c, m.2.1 = .slice A n c → n ≤ c
end Go.Proofs.YthfibggbipkmfaaGreat
