/- A book that the call made: its memory; New, Commit, Lines, Epoch, Len. -/
import Derived.Test.YtdkdhhfejbecdaaBz
import Derived.StillTailTactics
import Derived.Maps.RangeRun
namespace Go.Proofs.Ytdkdhhfejbecdaa
open Go.RowKit Go.Fb
/-- Block r is the map[int]int that keeps E. -/
def IntMap (w : World) (r : Nat) (E : List (Int × Nat)) : Prop :=
  ∃ es clock, w.heap[r]? = some (.map es clock) ∧ (∀ x ∈ es.toList, x.born < clock) ∧ (es.toList.map (·.born)).Nodup ∧ es.toList.map (fun e => (e.key, e.val)) = E.map (fun x => (Value.int .i64 x.1, Value.int .i64 (x.2 : Nat)))
theorem imfind_none (x : Int) : ∀ (es : List MapEntry) (E : List (Int × Nat)) (i : Nat), es.map (fun e => (e.key, e.val)) = E.map (fun x => (Value.int .i64 x.1, Value.int .i64 (x.2 : Nat))) → (∀ y ∈ E, y.1 ≠ x) → Instr.findNow (.int .i64) (.int .i64 x) es i = some none
  | [], _, _, _, _ => rfl
  | e :: es, [], _, h, _ => by simp at h
  | e :: es, k :: ks, i, h, hx => by
    simp only [List.map_cons, List.cons.injEq, Prod.mk.injEq] at h
    obtain ⟨⟨h1, h2⟩, h3⟩ := h
    have hne : (x == k.1) = false := by
      rw [beq_eq_false_iff_ne]
      exact fun e => hx k (by simp) e.symm
    have ih := imfind_none x es ks (i + 1) h3 (fun y hy => hx y (by simp [hy]))
    simp [Instr.findNow, h1, Instr.sameNow, hne, ih]
theorem IntMap.lt {w : World} {r : Nat} {E : List (Int × Nat)} (h : IntMap w r E) : r < w.heap.size := by
  obtain ⟨es, clock, hb, _⟩ := h
  rcases Nat.lt_or_ge r w.heap.size with h | h
  · exact h
  · rw [Array.getElem?_eq_none h] at hb; cases hb
theorem IntMap.new (w : World) : IntMap (w.alloc (.map #[] 0)) w.heap.size [] := ⟨#[], 0, heap_alloc_new w _, by simp, by simp, rfl⟩
theorem IntMap.fr {w w' : World} {r B : Nat} {L : List Nat} {E : List (Int × Nat)} (h : IntMap w r E) (hf : Fr B L w w') (h1 : r < B) (h2 : r ∉ L) : IntMap w' r E := by
  obtain ⟨es, clock, hb, he⟩ := h
  exact ⟨es, clock, (hf.block r h1 h2).trans hb, he⟩
theorem IntMap.far {w : World} {r : Nat} {E : List (Int × Nat)} (h : IntMap w r E) {p : Addr} (hp : r ≠ p.block) (u : Value) : IntMap (w.setCell p u) r E := by
  obtain ⟨es, clock, hb, he⟩ := h
  exact ⟨es, clock, (Below.heap_setCell w p u r hp).trans hb, he⟩
theorem IntMap.ne {w : World} {r g t : Nat} {E : List (Int × Nat)} {cs : Array Value} (h : IntMap w r E) (hb : Blk w g t cs) : r ≠ g := by
  rintro rfl
  obtain ⟨es, clock, h1, _⟩ := h
  unfold Blk at hb
  rw [h1] at hb
  cases hb
theorem IntMap.ne_own {w : World} {r : Nat} {E : List (Int × Nat)} {base e size n : Nat} {v : Value} {xs : List Value} (h : IntMap w r E) (ho : w.ownsRow base e size v n xs) : some r ≠ v.ownBlock := by
  intro he
  rcases ho.2 with ⟨rfl, _⟩ | ⟨g', cap, cur, rfl, _, hgg, _⟩
  · cases he
  · have he' : r = g' := by simpa [Value.ownBlock] using he
    subst he'
    obtain ⟨es, clock, h1, _⟩ := h
    rw [h1] at hgg
    cases hgg
theorem IntMap.apart {w : World} {r B n : Nat} {E : List (Int × Nat)} {A : Option Addr} {xs : List Value} (h : IntMap w r E) (hr : Reads w B 5 A n xs) : 0 < n → ∀ ad, A = some ad → ad.block ∉ [r] := by
  rintro hn ad rfl hm
  rw [List.mem_singleton] at hm
  obtain ⟨b, off, e, _, hc⟩ := hr.2 hn
  injection e with e
  subst e
  have hl : 0 < xs.length := by rw [hr.1]; omega
  have := hc 0 _ (List.getElem?_eq_getElem hl)
  obtain ⟨es, clock, hb, _⟩ := h
  simp only at hm
  subst hm
  simp [World.cell?, hb] at this
theorem IntMap.store {w : World} {r : Nat} {E : List (Int × Nat)} (h : IntMap w r E) {x : Int} {v : Nat} (hx : ∀ y ∈ E, y.1 ≠ x) :
    ∃ w', (Instr.mapUpdate 87 (.map (some r)) (.int .i64 x) (.int .i64 (v : Nat))).run Try.prog w = .ok () w' ∧ IntMap w' r (E ++ [(x, v)]) ∧ Fr w.heap.size [r] w w' ∧ w'.heap.size = w.heap.size := by
  have hlt := h.lt
  obtain ⟨es, clock, hb, h1, h2, he⟩ := h
  have hc : (Instr.checkKey false 10000 3 (.int .i64 x)).run Try.prog w = .ok () w :=
    MapKept.run_checkKey (k := .int .i64 x) Try.underlying3 (by simp [MapKept.IsKey]) false 9999
  refine ⟨setB w r (.map (es.push { key := .int .i64 x, val := .int .i64 (v : Nat), born := clock }) (clock + 1)), ?_, ⟨_, _, setB_new hlt _, ?_, ?_, ?_⟩, setB_fr _ _ _, setB_size _ _ _⟩
  · simp [Instr.mapUpdate, run_underlying Try.underlying87, MapKept.run_getObj_map hb, hc, MapKept.run_findKey Try.underlying3 (imfind_none x _ _ 0 he hx), MapKept.run_setObj_map _ hb, Result.andThen, setB]
  · intro y hy
    rw [Array.toList_push, List.mem_append, List.mem_singleton] at hy
    rcases hy with hy | rfl
    · have := h1 y hy; omega
    · show clock < clock + 1; omega
  · rw [Array.toList_push, List.map_append]
    refine List.nodup_append.2 ⟨h2, by simp, fun a ha c hc e1 => ?_⟩
    simp at hc
    obtain ⟨y, hy, rfl⟩ := List.mem_map.1 ha
    have := h1 y hy
    omega
  · rw [Array.toList_push, List.map_append, List.map_append, he]
    rfl
/-- A book. -/
structure Bk (base gb gm : Nat) (l : List (Nat → Int)) (E : List (Int × Nat)) (ep : Int) (V : Value) (w : World) : Prop where
  st : Blk w gb 96 #[V, .map (some gm), .int .i64 ep]
  mp : IntMap w gm E
  own : w.ownsRow base 93 5 V l.length (cellsLn l)
  low : base ≤ gb ∧ base ≤ gm
theorem Bk.ne {base gb gm : Nat} {l : List (Nat → Int)} {E : List (Int × Nat)} {ep : Int} {V : Value} {w : World} (h : Bk base gb gm l E ep V w) : gm ≠ gb ∧ some gb ≠ V.ownBlock ∧ some gm ≠ V.ownBlock :=
  ⟨h.mp.ne h.st, h.st.ne_own h.own (by decide), h.mp.ne_own h.own⟩
theorem Bk.fr {base gb gm : Nat} {l : List (Nat → Int)} {E : List (Int × Nat)} {ep : Int} {V : Value} {w w' : World} {B : Nat} {L : List Nat} (h : Bk base gb gm l E ep V w) (hf : Fr B L w w') (hB : w.heap.size ≤ B) (h1 : gb ∉ L) (h2 : gm ∉ L) (h3 : ∀ b, V.ownBlock = some b → b ∉ L) : Bk base gb gm l E ep V w' :=
  ⟨h.st.fr hf (Nat.lt_of_lt_of_le h.st.lt hB) h1, h.mp.fr hf (Nat.lt_of_lt_of_le h.mp.lt hB) h2, ownsRow_fr h.own hf (fun q hq => ⟨Nat.lt_of_lt_of_le (h.own.lt q hq).2 hB, h3 q hq⟩), h.low⟩
theorem Bk.keep {base gb gm : Nat} {l : List (Nat → Int)} {E : List (Int × Nat)} {ep : Int} {V : Value} {w w' : World} (h : Bk base gb gm l E ep V w) (hf : Fr w.heap.size [] w w') : Bk base gb gm l E ep V w' := h.fr hf (Nat.le_refl _) (by simp) (by simp) (by simp)
set_option maxRecDepth 100000 in
theorem bnew_any (w : World) : Calls Try.prog 14 #[] w fun e w' => ∃ gb gm, e = .returned (.pointer (some ⟨gb, 0, none⟩)) ∧ Bk w.heap.size gb gm [] [] 0 (.slice none 0 0) w' ∧ Fr w.heap.size [] w w' := by
  have hmm := @run_makeMap Try.prog
  go_enter Try.func14, Try.ntmps14
  go_wp2_with fail
  go_ret
  have hm := IntMap.new w
  have f1 := (Fr.refl w.heap.size [] w).alloc (Nat.le_refl _) (.map #[] 0)
  have f2 := (Fr.refl (w.alloc (.map #[] 0)).heap.size [] (w.alloc (.map #[] 0))).alloc (Nat.le_refl _) (.cells #[.slice none 0 0, .map (some w.heap.size), .int .i64 0] 96)
  exact ⟨_, w.heap.size, rfl, ⟨(by have h := Blk.new (w.alloc (.map #[] 0)) 96 #[.slice none 0 0, .map (some w.heap.size), .int .i64 0]; rw [World.size_alloc] at h; exact h), hm.fr f2 hm.lt (by simp), World.ownsRow_nil _ _ _ _, by simp, Nat.le_refl _⟩, f1.trans (f2.mono f1.size (by simp))⟩
section
variable {base gb gm : Nat} {l : List (Nat → Int)} {E : List (Int × Nat)} {ep : Int} {V : Value}
set_option maxRecDepth 100000 in
theorem bepoch_any (w : World) (h : Bk base gb gm l E ep V w) : Calls Try.prog 24 #[.pointer (some ⟨gb, 0, none⟩)] w fun e w' => e = .returned (.int .i64 ep) ∧ w = w' := by
  have x2 := h.st.cell 2
  simp at x2
  clear h
  go_enter Try.func24, Try.ntmps24
  go_wp2_with fail
  go_ret
  exact ⟨rfl, rfl⟩
set_option maxRecDepth 100000 in
theorem blen_any (w : World) (h : Bk base gb gm l E ep V w) : Calls Try.prog 26 #[.pointer (some ⟨gb, 0, none⟩)] w fun e w' => e = .returned (.int .i64 (l.length : Nat)) ∧ w = w' := by
  have x0 := h.st.cell 0
  simp at x0
  obtain ⟨A, c, hV, _⟩ := ownsRow_shape h.own
  rw [hV] at x0
  clear h hV
  generalize l.length = n at *
  go_enter Try.func26, Try.ntmps26
  go_wp2_with fail
  go_ret
  exact ⟨rfl, rfl⟩
set_option maxRecDepth 100000 in
theorem blines_any (w : World) (h : Bk base gb gm l E ep V w) (hn : l.length ≤ 1000000) : Calls Try.prog 22 #[.pointer (some ⟨gb, 0, none⟩)] w fun e w' => ∃ A' c', e = .returned (.slice A' l.length c') ∧ w'.ownsRow w.heap.size 93 5 (.slice A' l.length c') l.length (cellsLn l) ∧ Fr w.heap.size [] w w' := by
  have x0 := h.st.cell 0
  simp at x0
  obtain ⟨A, c, hV, _⟩ := ownsRow_shape h.own
  have own := h.own
  rw [hV] at x0 own
  have H := Lib.hid (lclone_any A l.length c w.heap.size l w rfl hn (Reads.of_own own) (Nat.le_refl _))
  clear h hV own
  generalize l.length = n at *
  go_enter Try.func22, Try.ntmps22
  go_wp2_with fail
  refine H.out.mono ?_
  rintro e w1 ⟨A', c', rfl, hown, f1⟩
  have HO := Lib.hid hown
  have F1 := Lib.hid f1
  clear hown f1
  go_wp2_with fail
  go_ret
  exact ⟨A', c', rfl, HO.out, F1.out⟩
set_option maxRecDepth 100000 in
theorem bcommit_there (w : World) (h : Bk base gb gm l E ep V w) (e : Int) (S : Value) (he : e ≤ ep) : Calls Try.prog 15 #[.pointer (some ⟨gb, 0, none⟩), .int .i64 e, S] w fun o w' => o = .returned (.int .i64 13) ∧ w = w' := by
  have x2 := h.st.cell 2
  simp at x2
  clear h
  go_enter Try.func15, Try.ntmps15
  go_wp2_with fail
  go_ret
  exact ⟨rfl, rfl⟩
set_option maxRecDepth 100000 in
theorem bcommit_arg (w : World) (h : Bk base gb gm l E ep V w) (e : Int) (A : Option Addr) (c B : Nat) (m : List (Nat → Int)) (hr : Reads w B 5 A m.length (cellsLn m)) (hB : B ≤ w.heap.size) (hm : m.length ≤ 1000000) (he : ep < e) (hall : m.all lineB = false) :
    Calls Try.prog 15 #[.pointer (some ⟨gb, 0, none⟩), .int .i64 e, .slice A m.length c] w fun o w' => o = .returned (.int .i64 1) ∧ Fr w.heap.size [] w w' := by
  have x2 := h.st.cell 2
  simp at x2
  have H := Lib.hid (lcontains_any A c B m w hr hB hm)
  rw [hall] at H
  clear h hr hB hall
  generalize m.length = n at *
  go_enter Try.func15, Try.ntmps15
  go_wp2_with fail
  refine H.out.mono ?_
  rintro e w1 ⟨rfl, f1⟩
  have F1 := Lib.hid f1
  clear f1
  go_wp2_with fail
  go_ret
  exact ⟨rfl, F1.out⟩
/-- What a commit that goes through leaves. -/
def CommitOut (base gb gm : Nat) (l m : List (Nat → Int)) (E : List (Int × Nat)) (e : Int) (V : Value) (w : World) (o : Ending) (w' : World) : Prop :=
  ∃ V', o = .returned (.int .i64 0) ∧ Bk base gb gm (l ++ m) (E ++ [(e, l.length)]) e V' w' ∧ Fr w.heap.size (gb :: gm :: V.ownBlock.toList) w w' ∧ (V'.ownBlock = V.ownBlock ∨ ∃ b, V'.ownBlock = some b ∧ w.heap.size ≤ b)
set_option maxRecDepth 100000 in
set_option maxHeartbeats 1000000 in
theorem bcommit_ok (w : World) (h : Bk base gb gm l E ep V w) (hbase : base ≤ w.heap.size) (e : Int) (A : Option Addr) (c B : Nat) (m : List (Nat → Int)) (hr : Reads w B 5 A m.length (cellsLn m)) (hB : B ≤ w.heap.size) (hm : l.length + m.length ≤ 1000000) (he : ep < e) (hall : m.all lineB = true) (hE : ∀ y ∈ E, y.1 ≠ e) :
    Calls Try.prog 15 #[.pointer (some ⟨gb, 0, none⟩), .int .i64 e, .slice A m.length c] w (CommitOut base gb gm l m E e V w) := by
  have H := Lib.hid (lcontains_any A c B m w hr hB (by omega))
  rw [hall] at H
  obtain ⟨AV, cV, hV, _⟩ := ownsRow_shape h.own
  subst hV
  have HK := Lib.hid h
  have HR := Lib.hid hr
  have HE := Lib.hid hE
  have x2 := h.st.cell 2
  simp at x2
  unfold CommitOut
  obtain ⟨n, hn⟩ : ∃ n, n = l.length := ⟨_, rfl⟩
  obtain ⟨k, hk⟩ : ∃ k, k = m.length := ⟨_, rfl⟩
  have HN := Lib.hid hn
  have HKL := Lib.hid hk
  rw [← hk] at H hm ⊢
  rw [← hn] at hm ⊢
  clear h hr hall hE hn hk
  go_enter Try.func15, Try.ntmps15
  go_wp2_with fail
  refine H.out.mono ?_
  rintro o w1 ⟨rfl, f1⟩
  have F1 := Lib.hid f1
  have HK1 := Lib.hid (HK.out.keep f1)
  have hb1 := f1.size
  obtain ⟨w2, hst, hmp2, f2, hs2⟩ := (HK1.out.mp.fr ((Fr.refl w1.heap.size [] w1).drew) HK1.out.mp.lt (by simp)).store (x := e) (v := n) (fun y hy => HE.out y hy)
  have y0 := HK1.out.st.cell 0
  have y1 := HK1.out.st.cell 1
  simp at y0 y1
  rw [← HN.out] at y0
  clear f1 H x2
  go_upto_region 7 with fail
  refine wp_region_still_tail 10 (by kernel_rfl) (by kernel_rfl) ?_
  simp only [List.take_succ_cons, List.take_zero, List.drop_succ_cons, List.drop_zero]
  repeat still_step
  refine wpStill_nil ?_
  change wpList _ _ _ _ _ w1.drew
  have hs2' : w2.heap.size = w1.heap.size := hs2
  have f2 : Fr w1.heap.size [gm] w1 w2 := ⟨f2.os, f2.tape, f2.output, f2.size, f2.block⟩
  obtain ⟨ne1, ne2, ne3⟩ := HK1.out.ne
  have BS2 := Lib.hid (HK1.out.st.fr f2 HK1.out.st.lt (by simp only [List.mem_singleton]; exact fun e => ne1 e.symm))
  have own2 := ownsRow_fr HK1.out.own f2 (fun q hq => ⟨(HK1.out.own.lt q hq).2, by simp only [List.mem_singleton]; rintro rfl; exact ne3 hq.symm⟩)
  have F2 := Lib.hid ((F1.out.mono (L' := [gm]) (Nat.le_refl _) (by simp)).trans (f2.mono (B' := w.heap.size) (L' := [gm]) hb1 (fun _ h _ => h)))
  have HMP2 := Lib.hid hmp2
  clear hmp2 f2 hs2
  rw [← HN.out] at own2
  go_upto_region 8 with fail
  have y0 := BS2.out.cell 0
  simp at y0
  rw [← HN.out] at y0
  have hr2 := HR.out.frL F2.out hB (HK.out.mp.apart HR.out)
  rw [← HKL.out] at hr2
  have hbase2 : base ≤ w2.heap.size := by omega
  go_wp2_with (at_builtin; refine wpList_app _ rfl (.tmp 34) (.tmp 35) lineTy rfl base (.slice AV n cV) n _ rfl own2 B A k c _ rfl hr2 lnC_one (by omega) (by omega) hbase2 ?_; intro A2 c2 w3 hown3 hg3 hat3; have z0 : w3.frozen? ⟨gb, 0, none⟩ = false := (BS2.out.grown hg3 (by rw [HN.out]; exact ne2)).frozen 0; have z2 : w3.frozen? ⟨gb, 2, none⟩ = false := (BS2.out.grown hg3 (by rw [HN.out]; exact ne2)).frozen 2; have q0 : w3.cell? ⟨gb, 0, none⟩ = some (.slice AV l.length cV) := ((BS2.out.grown hg3 (by rw [HN.out]; exact ne2)).cell 0).trans (by simp); have q2 : w3.cell? ⟨gb, 2, none⟩ = some (.int .i64 ep) := ((BS2.out.grown hg3 (by rw [HN.out]; exact ne2)).cell 2).trans (by simp))
  have BS3 := Lib.hid ((BS2.out.grown hg3 (by rw [HN.out]; exact ne2)).set_ 0 (.slice A2 (n + k) c2))
  have hgm3 : w3.heap[gm]? = w2.heap[gm]? := hg3.block _ HMP2.out.lt (by rw [HN.out]; exact ne3)
  have HMP3 : RowKit.Hid (IntMap w3 gm (E ++ [(e, n)])) := Lib.hid (by obtain ⟨es, clock, hb, he⟩ := HMP2.out; exact ⟨es, clock, hgm3.trans hb, he⟩)
  have HMP3 := Lib.hid (HMP3.out.far (p := ⟨gb, 0, none⟩) (by show gm ≠ gb; exact ne1) (.slice A2 (n + k) c2))
  have hne3 : (Value.slice A2 (n + k) c2).ownBlock ≠ some gb := by
    have hb := BS2.out.lt
    rcases hat3 with h | h
    · rw [h, HN.out]; exact fun e => ne2 e.symm
    · rw [h]; intro e; injection e with e; omega
  have O3 := Lib.hid (Go.Fb.ownsRow_setCell_other hown3 (p := ⟨gb, 0, none⟩) hne3 (.slice A2 (n + k) c2))
  have F3 := Lib.hid (((F2.out.mono (L' := gb :: gm :: (Value.slice AV l.length cV).ownBlock.toList) (Nat.le_refl _) (by intro q hq _; rw [List.mem_singleton] at hq; simp [hq])).grown hg3 (by omega) (fun q hq => .inr (by rw [HN.out] at hq; simp [hq]))).setCell (p := ⟨gb, 0, none⟩) (.inr (by simp)) (.slice A2 (n + k) c2))
  have HAT := Lib.hid hat3
  rw [← HN.out] at F3
  go_ret
  refine ⟨.slice A2 (n + k) c2, rfl, ⟨BS3.out.set_ 2 _, HMP3.out.far (p := ⟨gb, 2, none⟩) (by show gm ≠ gb; exact ne1) _, ?_, HK.out.low⟩, F3.out.setCell (p := ⟨gb, 2, none⟩) (.inr (by simp)) _, ?_⟩
  · have o := Go.Fb.ownsRow_setCell_other O3.out (p := ⟨gb, 2, none⟩) hne3 (.int .i64 e)
    rw [List.length_append, ← HN.out, ← HKL.out, cellsLn_app]
    exact o
  · rcases HAT.out with h | h
    · left; rw [h, HN.out]
    · right; exact ⟨_, h, by omega⟩
end
end Go.Proofs.Ytdkdhhfejbecdaa
