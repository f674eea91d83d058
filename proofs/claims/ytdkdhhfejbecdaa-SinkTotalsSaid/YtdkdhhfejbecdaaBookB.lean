/- A book: Since (a range over its map), Of, and the document's example. -/
import Derived.Test.YtdkdhhfejbecdaaBook
namespace Go.Proofs.Ytdkdhhfejbecdaa
open Go.RowKit Go.Fb
/-- What is had of a list from a place on. -/
theorem reads_from {w : World} {B n c f : Nat} {A : Option Addr} {l : List (Nat → Int)} (h : Reads w B 5 A n (cellsLn l)) (hn : n = l.length) (hf : f ≤ n) (hc : n ≤ c) : Reads w B 5 (if c = f then A else A.map (·.add (f * 5))) (n - f) (cellsLn (l.drop f)) := by
  refine ⟨by rw [cellsLn_length, List.length_drop, ← hn], fun h0 => ?_⟩
  obtain ⟨b, off, e, hb, hcell⟩ := h.2 (by omega)
  subst e
  rw [if_neg (by omega)]
  refine ⟨b, off + f * 5, ?_, hb, fun j u hu => ?_⟩
  · simp only [Option.map_some, Addr.add]
    split <;> simp_all
  · have : (cellsLn l)[f * 5 + j]? = some u := by
      have e1 : l = l.take f ++ l.drop f := (List.take_append_drop f l).symm
      rw [e1, cellsLn_app, List.getElem?_append_right (by rw [cellsLn_length, List.length_take]; omega), cellsLn_length, List.length_take]
      rw [show f * 5 + j - min f l.length * 5 = j by rw [Nat.min_eq_left (by omega)]; omega]
      exact hu
    have h2 := hcell _ _ this
    rw [← Nat.add_assoc] at h2
    exact h2
section
variable {base gb gm : Nat} {l : List (Nat → Int)} {E : List (Int × Nat)} {ep : Int} {V : Value}
set_option maxRecDepth 100000 in
theorem bof_any (w : World) (h : Bk base gb gm l E ep V w) (hn : l.length ≤ 1000000) (s f k : Int) : Calls Try.prog 25 #[.pointer (some ⟨gb, 0, none⟩), .int .i64 s, .int .i64 f, .int .i64 k] w (OnlyOut l (s, f, k) w) := by
  have x0 := h.st.cell 0
  simp at x0
  obtain ⟨A, c, hV, _⟩ := ownsRow_shape h.own
  have own := h.own
  rw [hV] at x0 own
  have H := Lib.hid (only_any A c w.heap.size l s f k w (Reads.of_own own) (Nat.le_refl _) hn)
  clear h hV own
  unfold OnlyOut at *
  generalize l.length = n at *
  go_enter Try.func25, Try.ntmps25
  go_wp2_with fail
  refine H.out.mono ?_
  rintro e w1 ⟨A', c', rfl, hown, f1⟩
  have HO := Lib.hid hown
  have F1 := Lib.hid f1
  clear hown f1
  go_wp2_with fail
  go_ret
  exact ⟨A', c', rfl, HO.out, F1.out⟩
/-- From where on the lines of later epochs stand. -/
def FromOk (E : List (Int × Nat)) (ask : Int) (n f : Nat) : Prop := f ≤ n ∧ (∀ x ∈ E, ask < x.1 → f ≤ x.2) ∧ (f = n ∨ ∃ x ∈ E, ask < x.1 ∧ x.2 = f)
/-- What is known of it while the map is gone through. -/
def FromI (es : List MapEntry) (seen : Array Nat) (ask : Int) (n f : Nat) : Prop :=
  f ≤ n ∧ (∀ x ∈ es, seen.contains x.born = true → ∀ (k : Int) (v : Nat), x.key = .int .i64 k → x.val = .int .i64 (v : Nat) → ask < k → f ≤ v) ∧ (f = n ∨ ∃ x ∈ es, ∃ k : Int, x.key = .int .i64 k ∧ x.val = .int .i64 (f : Nat) ∧ ask < k)
theorem FromI.start (es : List MapEntry) (ask : Int) (n : Nat) : FromI es #[] ask n n := ⟨Nat.le_refl _, fun x _ h => by simp at h, .inl rfl⟩
theorem FromI.skip {es : List MapEntry} {seen : Array Nat} {ask : Int} {n f : Nat} (h : FromI es seen ask n f) (hnd : (es.map (·.born)).Nodup) {e : MapEntry} (he : e ∈ es) {k : Int} {v : Nat} (hk : e.key = .int .i64 k) (hv : e.val = .int .i64 (v : Nat)) (hc : ¬ ask < k ∨ f ≤ v) : FromI es (seen.push e.born) ask n f := by
  refine ⟨h.1, fun x hx hs k' v' hk' hv' ha => ?_, h.2.2⟩
  rw [contains_push] at hs
  cases hc1 : seen.contains x.born with
  | true => exact h.2.1 x hx hc1 k' v' hk' hv' ha
  | false =>
    rw [hc1, Bool.false_or, beq_iff_eq] at hs
    have hxe : x = e := by
      have a := find_born x es hnd hx
      have b := find_born e es hnd he
      rw [hs, b] at a
      injection a with a
      exact a.symm
    subst hxe
    rw [hk] at hk'
    rw [hv] at hv'
    injection hk' with _ hk'
    injection hv' with _ hv'
    rcases hc with hc | hc <;> omega
theorem FromI.take {es : List MapEntry} {seen : Array Nat} {ask : Int} {n f : Nat} (h : FromI es seen ask n f) (hnd : (es.map (·.born)).Nodup) {e : MapEntry} (he : e ∈ es) {k : Int} {v : Nat} (hk : e.key = .int .i64 k) (hv : e.val = .int .i64 (v : Nat)) (ha : ask < k) (hlt : v < f) : FromI es (seen.push e.born) ask n v := by
  refine ⟨by have := h.1; omega, fun x hx hs k' v' hk' hv' ha' => ?_, .inr ⟨e, he, k, hk, hv, ha⟩⟩
  rw [contains_push] at hs
  cases hc1 : seen.contains x.born with
  | true => have := h.2.1 x hx hc1 k' v' hk' hv' ha'; omega
  | false =>
    rw [hc1, Bool.false_or, beq_iff_eq] at hs
    have hxe : x = e := by
      have a := find_born x es hnd hx
      have b := find_born e es hnd he
      rw [hs, b] at a
      injection a with a
      exact a.symm
    subst hxe
    rw [hv] at hv'
    injection hv' with _ hv'
    omega
theorem FromI.done {es : Array MapEntry} {seen : Array Nat} {ask : Int} {n f : Nat} {E : List (Int × Nat)} (h : FromI es.toList seen ask n f) (h0 : (leftOf es seen).size = 0) (he : es.toList.map (fun e => (e.key, e.val)) = E.map (fun x => (Value.int .i64 x.1, Value.int .i64 (x.2 : Nat)))) : FromOk E ask n f := by
  have all : ∀ x ∈ es.toList, seen.contains x.born = true := by
    intro x hx
    cases hc : seen.contains x.born with
    | true => rfl
    | false =>
      exfalso
      have hm : x ∈ leftOf es seen := by unfold leftOf; rw [Array.mem_filter]; exact ⟨by simpa using hx, by rw [hc]; rfl⟩
      have : leftOf es seen = #[] := Array.eq_empty_of_size_eq_zero h0
      rw [this] at hm
      simp at hm
  refine ⟨h.1, fun x hx ha => ?_, ?_⟩
  · have : (Value.int .i64 x.1, Value.int .i64 (x.2 : Nat)) ∈ es.toList.map (fun e => (e.key, e.val)) := by rw [he]; exact List.mem_map.2 ⟨x, hx, rfl⟩
    obtain ⟨e, h1, h2⟩ := List.mem_map.1 this
    simp only [Prod.mk.injEq] at h2
    exact h.2.1 e h1 (all e h1) x.1 x.2 h2.1 h2.2 ha
  · rcases h.2.2 with h | ⟨e, h1, k, h2, h3, h4⟩
    · exact .inl h
    · have : (e.key, e.val) ∈ E.map (fun x => (Value.int .i64 x.1, Value.int .i64 (x.2 : Nat))) := by rw [← he]; exact List.mem_map.2 ⟨e, h1, rfl⟩
      obtain ⟨x, g1, g2⟩ := List.mem_map.1 this
      simp only [Prod.mk.injEq] at g2
      rw [h2, h3] at g2
      obtain ⟨g2, g3⟩ := g2
      injection g2 with _ g2
      injection g3 with _ g3
      exact .inr ⟨x, g1, by omega, by omega⟩
theorem entry_form {es : Array MapEntry} {E : List (Int × Nat)} (he : es.toList.map (fun e => (e.key, e.val)) = E.map (fun x => (Value.int .i64 x.1, Value.int .i64 (x.2 : Nat)))) {e : MapEntry} (h : e ∈ es.toList) : ∃ x ∈ E, e.key = .int .i64 x.1 ∧ e.val = .int .i64 (x.2 : Nat) := by
  have : (e.key, e.val) ∈ E.map (fun x => (Value.int .i64 x.1, Value.int .i64 (x.2 : Nat))) := by rw [← he]; exact List.mem_map.2 ⟨e, h, rfl⟩
  obtain ⟨x, g1, g2⟩ := List.mem_map.1 this
  simp only [Prod.mk.injEq] at g2
  exact ⟨x, g1, g2.1.symm, g2.2.symm⟩
theorem iterSeen_of {w : World} {r : Nat} {m : Option Nat} {a c : Nat} {s : Array Nat} (h : w.heap[r]? = some (.mapIter m a s c)) : w.iterSeen r = s := by
  unfold World.iterSeen; rw [h]
theorem setBlock_fr (w : World) (r : Nat) (o : Obj) : Fr w.heap.size [r] w (Go.ChangeMaps.setBlock w r o) :=
  ⟨rfl, rfl, rfl, by simp [Go.ChangeMaps.setBlock], fun k _ hk => by
    have : r ≠ k := fun h => hk (by simp [h])
    simp [Go.ChangeMaps.setBlock, this]⟩
theorem setBlock_new {w : World} {r : Nat} (h : r < w.heap.size) (o : Obj) : (Go.ChangeMaps.setBlock w r o).heap[r]? = some o := by simp [Go.ChangeMaps.setBlock, h]
/-- What Since leaves. -/
def SinceOut (l : List (Nat → Int)) (E : List (Int × Nat)) (ask : Int) (w : World) (e : Ending) (w' : World) : Prop :=
  ∃ f A c, FromOk E ask l.length f ∧ e = .returned (.slice A (l.length - f) c) ∧ w'.ownsRow w.heap.size 93 5 (.slice A (l.length - f) c) (l.length - f) (cellsLn (l.drop f)) ∧ Fr w.heap.size [] w w'
set_option maxRecDepth 100000 in
set_option maxHeartbeats 1000000 in
theorem bsince_any (w : World) (h : Bk base gb gm l E ep V w) (hn : l.length ≤ 1000000) (hv : ∀ x ∈ E, x.2 ≤ 1000000) (ask : Int) : Calls Try.prog 21 #[.pointer (some ⟨gb, 0, none⟩), .int .i64 ask] w (SinceOut l E ask w) := by
  have HK := Lib.hid h
  have HVB := Lib.hid hv
  obtain ⟨A, c, hV, _, hcap, _⟩ := ownsRow_shape h.own
  subst hV
  have x0 := h.st.cell 0
  have x1 := h.st.cell 1
  simp at x0 x1
  obtain ⟨es, clock, hb, h1, h2, he⟩ := h.mp
  have hrg := run_range_map (P := Try.prog) w 87 3 3 gm es clock Try.underlying87 hb
  have HB := Lib.hid hb
  have H1 := Lib.hid h1
  have H2 := Lib.hid h2
  have HE := Lib.hid he
  have hgm := HK.out.mp.lt
  unfold SinceOut
  obtain ⟨n, hnl⟩ : ∃ n, n = l.length := ⟨_, rfl⟩
  have HN := Lib.hid hnl
  rw [← hnl] at x0 hn hcap ⊢
  clear h hv hb h1 h2 he hnl
  go_enter Try.func21, Try.ntmps21
  go_wp2_with fail
  go_loopw [5] (fun s5 wr => ∃ (f : Nat) (seen : Array Nat), s5 = .int .i64 f ∧ RowKit.Hid (wr.heap[w.heap.size]? = some (.mapIter (some gm) clock seen clock)) ∧ RowKit.Hid (FromI es.toList seen ask n f) ∧ RowKit.Hid (Fr w.heap.size [] w wr)) (fun _ wr => (leftOf es (wr.iterSeen w.heap.size)).size)
  case atStart => exact ⟨n, #[], rfl, Lib.hid (heap_alloc_new w _), Lib.hid (FromI.start _ _ _), Lib.hid ((Fr.refl _ _ _).alloc (Nat.le_refl _) _)⟩
  case round =>
    clear hrg
    obtain ⟨f, seen, rfl, HI, HF, F⟩ := hrel
    have hbm := (F.out.block gm hgm (by simp)).trans HB.out
    have hfn := HF.out.1
    rcases run_next_at (P := Try.prog) wr 0 w.heap.size gm clock clock seen es clock HI.out hbm H1.out (Nat.le_refl _) with ⟨h0, hrun⟩ | ⟨e, hel, w1, hw1, hrun⟩
    · have hnx : ∀ ty, (Instr.next (.pointer (some ⟨w.heap.size, 0, none⟩)) false ty).run Try.prog wr = _ := fun _ => hrun
      have HD := Lib.hid (HF.out.done h0 HE.out)
      have F2 := F
      have y0 := HK.out.st.fr F.out HK.out.st.lt (by simp)
      have y0 := y0.cell 0
      simp at y0
      rw [← HN.out] at y0
      have HRD := Lib.hid (reads_from (c := c) ((Reads.of_own HK.out.own).fr F.out (Nat.le_refl _) (by simp)) (by rfl) (by rw [← HN.out]; exact hfn) (by rw [← HN.out]; exact hcap))
      rw [← HN.out] at HRD
      have hdl : n - f = (l.drop f).length := by rw [List.length_drop, HN.out]
      have HCL := Lib.hid (fun A' c' (e : A' = if c = f then A else A.map (·.add (f * 5))) => lclone_any A' (n - f) c' w.heap.size (l.drop f) wr hdl (by omega) (by rw [e]; exact HRD.out) F.out.size)
      have hfi : (f : Int) ≤ (n : Int) := by omega
      clear hrun h0 hdl HI HF
      by_cases hcf : c = f
      · have HC := Lib.hid (HCL.out A 0 (by rw [if_pos hcf]))
        have hci : (c : Int) = (f : Int) := by omega
        go_wp2_with fail
        refine HC.out.mono ?_
        rintro e w2 ⟨A', c', rfl, hown, f2⟩
        have F3 := Lib.hid (F.out.trans (f2.mono F.out.size (by simp)))
        have HO := Lib.hid (ownsRow_base hown F.out.size)
        clear hown f2 HC HCL
        go_wp2_with fail
        go_ret
        exact ⟨f, A', c', HD.out, rfl, HO.out, F3.out⟩
      · have HC := Lib.hid (HCL.out (A.map (·.add (f * 5))) (c - f) (by rw [if_neg hcf]))
        have hci : ¬ (c : Int) = (f : Int) := by omega
        go_wp2_with fail
        refine HC.out.mono ?_
        rintro e w2 ⟨A', c', rfl, hown, f2⟩
        have F3 := Lib.hid (F.out.trans (f2.mono F.out.size (by simp)))
        have HO := Lib.hid (ownsRow_base hown F.out.size)
        clear hown f2 HC HCL
        go_wp2_with fail
        go_ret
        exact ⟨f, A', c', HD.out, rfl, HO.out, F3.out⟩
    · obtain ⟨hee, _⟩ := mem_left hel
      obtain ⟨x, hxE, hk, hxv⟩ := entry_form HE.out hee
      have hv6 := HVB.out x hxE
      have hlt : w.heap.size < w1.heap.size := by
        have : w.heap.size < wr.heap.size := by
          rcases Nat.lt_or_ge w.heap.size wr.heap.size with h | h
          · exact h
          · have := HI.out; rw [Array.getElem?_eq_none h] at this; cases this
        rcases hw1 with rfl | rfl
        · exact this
        · exact this
      have F1 : Fr w.heap.size [] w w1 := by
        rcases hw1 with rfl | rfl
        · exact F.out
        · exact F.out.drew
      have hen := run_entry_at (P := Try.prog) (Go.ChangeMaps.setBlock w1 w.heap.size (.mapIter (some gm) clock (seen.push e.born) clock)) w.heap.size gm clock seen es clock e (setBlock_new hlt _) (((setBlock_fr w1 w.heap.size _).block gm (by have := F1.size; omega) (by simp; omega)).trans ((F1.block gm hgm (by simp)).trans HB.out)) hee H2.out
      rw [hk, hxv] at hrun hen
      have hnx : ∀ ty, (Instr.next (.pointer (some ⟨w.heap.size, 0, none⟩)) false ty).run Try.prog wr = _ := fun _ => hrun
      have HI2 := Lib.hid (setBlock_new (w := w1) hlt (.mapIter (some gm) clock (seen.push e.born) clock))
      have F2 := Lib.hid (F1.trans ((setBlock_fr w1 w.heap.size (.mapIter (some gm) clock (seen.push e.born) clock)).mono (B' := w.heap.size) (L' := []) (by omega) (by simp)))
      have HSH := Lib.hid (show (leftOf es ((Go.ChangeMaps.setBlock w1 w.heap.size (.mapIter (some gm) clock (seen.push e.born) clock)).iterSeen w.heap.size)).size < (leftOf es (wr.iterSeen w.heap.size)).size by rw [iterSeen_of HI.out, iterSeen_of HI2.out]; exact left_shrinks es seen e hel)
      have HKY := Lib.hid hk
      have HVL := Lib.hid hxv
      have HEE := Lib.hid hee
      clear hrun hee hk hxv hel hlt F1
      generalize Go.ChangeMaps.setBlock w1 w.heap.size (.mapIter (some gm) clock (seen.push e.born) clock) = w2 at *
      clear hw1
      by_cases ha : ask < x.1
      · by_cases hf : f ≤ x.2
        · have hfi : (f : Int) ≤ (x.2 : Int) := by omega
          have HF2 := Lib.hid (HF.out.skip H2.out HEE.out HKY.out HVL.out (.inr hf))
          clear hf
          go_wp2_with fail
          go_roundw
          case rel => exact ⟨f, seen.push e.born, rfl, HI2, HF2, F2⟩
          case measure => exact HSH.out
        · have hfi : ¬ (f : Int) ≤ (x.2 : Int) := by omega
          have HF2 := Lib.hid (HF.out.take H2.out HEE.out HKY.out HVL.out ha (by omega))
          clear hf
          go_wp2_with fail
          go_roundw
          case rel => exact ⟨x.2, seen.push e.born, rfl, HI2, HF2, F2⟩
          case measure => exact HSH.out
      · have had : decide (ask < x.1) = false := decide_eq_false ha
        have HF2 := Lib.hid (HF.out.skip H2.out HEE.out HKY.out HVL.out (.inl ha))
        go_wp2_with fail
        go_roundw
        case rel => exact ⟨f, seen.push e.born, rfl, HI2, HF2, F2⟩
        case measure => exact HSH.out
end
end Go.Proofs.Ytdkdhhfejbecdaa
