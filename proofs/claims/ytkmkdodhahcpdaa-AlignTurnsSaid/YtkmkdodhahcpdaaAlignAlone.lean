/- AlignAlone: the walk. -/
import Derived.Test.YtkmkdodhahcpdaaAlignE
namespace Go.Proofs.Ytkmkdodhahcpdaa
open Go.RowKit Go.Fb
/-- What stands while AlignAlone runs: the single channel's aligner, and the one of none. -/
structure AloInv (w wr : World) (g1 gb1 g2 gb2 : Nat) (bs : List Bool) (b : Bool) (ep many : Int) : Prop where
  a : Al wr g1 gb1 bs b ep false many 0
  z : Al wr g2 gb2 [] false 0 false 0 (-1)
  fr : Fr w.heap.size [] w wr
  ord : w.heap.size ≤ gb1 ∧ gb1 < g1 ∧ g1 < gb2 ∧ gb2 < g2
section
variable {w wr wr' : World} {g1 gb1 g2 gb2 : Nat} {bs bs' : List Bool} {b b' : Bool} {ep ep' many many' : Int}
theorem AloInv.keep (h : RowKit.Hid (AloInv w wr g1 gb1 g2 gb2 bs b ep many)) (hf : Fr wr.heap.size [] wr wr') : RowKit.Hid (AloInv w wr' g1 gb1 g2 gb2 bs b ep many) := by
  obtain ⟨a, z, fr, ord⟩ := h.out
  exact Lib.hid ⟨a.fr0 hf, z.fr0 hf, fr.trans (hf.mono fr.size (by simp)), ord⟩
theorem AloInv.turn (h : RowKit.Hid (AloInv w wr g1 gb1 g2 gb2 bs b ep many)) (hf : Fr wr.heap.size [g1, gb1] wr wr') (ha : Al wr' g1 gb1 bs' b' ep' false many' 0) : RowKit.Hid (AloInv w wr' g1 gb1 g2 gb2 bs' b' ep' many') := by
  obtain ⟨a, z, fr, ord⟩ := h.out
  exact Lib.hid ⟨ha, z.fr hf z.st.lt z.bl.lt (by simp; omega) (by simp; omega), fr.trans (hf.mono fr.size (fun k hk hlt => by simp at hk; omega)), ord⟩
end
theorem alone1_any (k : Int) (w : World) : Calls Try.prog 43 #[.int .i64 k] w fun e w' => e = .returned (.bool true) ∧ Fr w.heap.size [] w w' := by
  go_enter Try.func43, Try.ntmps43
  go_wp2_with fail
  go_ret
  exact ⟨rfl, Fr.refl _ _ _⟩
theorem alone2_any (k : Int) (w : World) : Calls Try.prog 44 #[.int .i64 k] w fun e w' => e = .returned (.bool true) ∧ Fr w.heap.size [] w w' := by
  go_enter Try.func44, Try.ntmps44
  go_wp2_with fail
  go_ret
  exact ⟨rfl, Fr.refl _ _ _⟩
/-- One that is blocked isn't picked. -/
theorem alone_pick {w : World} {g gb : Nat} {b : Bool} {ep : Int} {p : Bool} {many : Int} (h : Al w g gb [true] b ep p many 0) :
    Calls Try.prog 31 #[.pointer (some ⟨g, 0, none⟩), .func (.func 43) #[] #[]] w fun e w' => e = .returned (.tuple #[.int .i64 0, .bool false]) ∧ Fr w.heap.size [] w w' := by
  refine (pick_any _ #[] (fun _ => true) h (by simp) (by omega) (by simp) (fun args w => by kernel_rfl) (fun k w' _ _ => alone1_any k w')).mono ?_
  rintro e w' (⟨k, hk, hf, _⟩ | ⟨_, he, hf⟩)
  · obtain rfl : k = 0 := by simp at hk; omega
    exact absurd hf (by decide)
  · exact ⟨he, hf⟩
theorem none_pick {w : World} {g gb : Nat} {b : Bool} {ep : Int} {p : Bool} {many : Int} (h : Al w g gb [] b ep p many (-1)) :
    Calls Try.prog 31 #[.pointer (some ⟨g, 0, none⟩), .func (.func 44) #[] #[]] w fun e w' => e = .returned (.tuple #[.int .i64 0, .bool false]) ∧ Fr w.heap.size [] w w' := by
  refine (pick_any _ #[] (fun _ => true) h (by simp) (by omega) (by simp) (fun args w => by kernel_rfl) (fun k w' _ _ => alone2_any k w')).mono ?_
  rintro e w' (⟨k, hk, hf, _⟩ | ⟨_, he, hf⟩)
  · simp at hk
  · exact ⟨he, hf⟩
theorem none_open {w : World} {g gb : Nat} {b : Bool} {ep : Int} {p : Bool} {many last : Int} (h : Al w g gb [] b ep p many last) :
    Calls Try.prog 36 #[.pointer (some ⟨g, 0, none⟩)] w fun e w' => (∃ A c, e = .returned (.slice A 0 c)) ∧ Fr w.heap.size [] w w' := by
  refine (open_any h (by simp)).mono ?_
  rintro e w' ⟨A, c, he, _, hf⟩
  exact ⟨⟨A, c, he⟩, hf⟩
set_option maxRecDepth 100000 in
set_option maxHeartbeats 2000000 in
theorem walk_AlignAlone (A : Option Addr) (n c : Nat) (xs : List Int) (hnc : n ≤ c) (_hcm : c ≤ maxLen) (w : World) (hr : Reads w w.heap.size 1 A n (xs.map (Value.int .u8))) (hwf : ∀ x ∈ xs, (Lit.int .u8 x).wf = true) :
    Calls Try.prog 11 #[.slice A n c] w fun e w' => e = .returned (.bool true) ∧ Below w.heap.size w w' := by
  have HA := Lib.hid awake19
  unfold maxLen at _hcm
  have HR := Lib.hid hr
  have HWF := Lib.hid hwf
  clear hr hwf
  by_cases hn : n ≤ 60
  case neg =>
    go_enter Try.func11, Try.ntmps11
    go_wp2_with (go_at_call 28; refine (HA.out _).mono ?_; rintro e w1 ⟨rfl, f1⟩)
    go_ret
    exact ⟨rfl, f1.below⟩
  have E1 := Lib.hid (show xs.length = n by simpa using HR.out.1)
  go_enter Try.func11, Try.ntmps11
  go_wp2_with fail
  refine (HA.out _).mono ?_
  rintro e w1 ⟨rfl, f1⟩
  have F1 := Lib.hid f1
  have z1 := f1.size
  clear f1
  go_wp2_with fail
  refine (anew_yes 1 _ (by decide)).mono ?_
  rintro e w2 ⟨rfl, a2, f2⟩
  have a2' : Al w2 (w1.heap.size + 1) w1.heap.size [false] false 0 false 0 0 := a2
  have A2 := Lib.hid a2'
  have F2 := Lib.hid f2
  have l2 := a2.st.lt
  clear a2 a2' f2
  generalize hg1 : w1.heap.size + 1 = g1 at *
  generalize hgb1 : w1.heap.size = gb1 at *
  have hgg : gb1 < g1 := by omega
  clear hg1
  go_wp2_with fail
  refine (anew_yes 0 _ (by decide)).mono ?_
  rintro e w3 ⟨rfl, a3, f3⟩
  have a3' : Al w3 (w2.heap.size + 1) w2.heap.size [] false 0 false 0 (-1) := a3
  have INV : RowKit.Hid (AloInv w w3 g1 gb1 (w2.heap.size + 1) w2.heap.size [false] false 0 0) := by
    refine Lib.hid ⟨A2.out.fr0 f3, a3', (F1.out.trans (F2.out.mono (by omega) (by simp))).trans (f3.mono (by omega) (by simp)), by omega, hgg, by omega, by omega⟩
  clear a3 a3' f3 F1 F2 A2
  generalize w2.heap.size + 1 = g2 at *
  generalize w2.heap.size = gb2 at *
  clear hgb1 z1 l2
  go_wp2_with fail
  go_loopw [41] (fun i wr => ∃ k : Nat, k ≤ n ∧ i = .int .i64 k ∧ AloInv w wr g1 gb1 g2 gb2 [false] false 0 0) (fun i _ => n - (intOf i).toNat)
  case atStart => exact ⟨0, by omega, rfl, INV.out⟩
  case round =>
    obtain ⟨k, hk, rfl, hinv⟩ := hrel
    have INV := Lib.hid hinv
    clear hinv
    by_cases hkn : k < n
    · obtain ⟨bb, off, u, rfl, hbb, hu, hcell⟩ := (HR.out.fr INV.out.fr (Nat.le_refl _) (by simp)).one hkn
      obtain ⟨x, hx, rfl⟩ : ∃ x, xs[k]? = some x ∧ u = .int .u8 x := by
        rw [List.getElem?_map] at hu
        cases h : xs[k]? with
        | none => rw [h] at hu; cases hu
        | some x => rw [h] at hu; injection hu with hu; exact ⟨x, rfl, hu.symm⟩
      have hxb : 0 ≤ x ∧ x ≤ 255 := by have := HWF.out x (List.mem_of_getElem? hx); simp [Lit.wf, IntKind.min, IntKind.max, IntKind.bits, IntKind.signed] at this; omega
      clear hu hx
      have hki : (k : Int) < (n : Int) := by omega
      go_wp2_with fail
      clear hcell
      have B0 := Lib.hid (Blk.new wr 66 (It true 0 0 0 x false))
      have hgi1 : g1 ≠ wr.heap.size ∧ gb1 ≠ wr.heap.size := by have h1 := INV.out.a.st.lt; have h2 := INV.out.a.bl.lt; omega
      have INV := AloInv.keep INV ((Fr.refl wr.heap.size [] wr).alloc (Nat.le_refl _) (.cells (It true 0 0 0 x false) 66))
      generalize wr.alloc _ = w0 at *
      generalize hgi : wr.heap.size = gi at *
      refine (block_ok INV.out.a 0 rfl 0 0 0 x false (.inl (by decide)) (by decide) (by decide)).mono ?_
      rintro e w1 ⟨rfl, a1, f1⟩
      have a1' : Al w1 g1 gb1 [true] true x false 1 0 := a1
      have B1 := Lib.hid (B0.out.fr f1 B0.out.lt (by simp; omega))
      have INV := AloInv.turn INV f1 a1'
      clear a1 a1' f1
      have l1 := B1.out.lt
      obtain ⟨c0, c1, c2, c3, c4, c5⟩ := it_cells B1.out
      go_wp2_with fail
      clear c0 c1 c2 c3 c4 c5
      refine (block_there INV.out.a 0 rfl 0 0 0 x false).mono ?_
      rintro e w2 ⟨rfl, f2⟩
      have B2 := Lib.hid (B1.out.fr f2 l1 (by simp))
      have INV := AloInv.keep INV f2
      clear f2
      go_wp2_with fail
      refine (met_yes INV.out.a rfl).mono ?_
      rintro e w3 ⟨rfl, f3⟩
      have B3 := Lib.hid (B2.out.fr f3 B2.out.lt (by simp))
      have INV := AloInv.keep INV f3
      have l3 := B3.out.lt
      clear f3
      go_wp2_with fail
      have X3 := Lib.hid (Blk.new w3 66 (It true 0 0 0 x false))
      have fa3 := (Fr.refl w3.heap.size [] w3).alloc (Nat.le_refl _) (.cells (It true 0 0 0 x false) 66)
      have B3' := Lib.hid (B3.out.fr fa3 l3 (by simp))
      have INV := AloInv.keep INV fa3
      clear fa3
      generalize w3.alloc _ = w4 at *
      generalize w3.heap.size = gx at *
      refine (alone_pick INV.out.a).mono ?_
      rintro e w5 ⟨rfl, f5⟩
      have l5 := B3'.out.lt
      have B5 := Lib.hid (B3'.out.fr f5 l5 (by simp))
      have X5 := Lib.hid (X3.out.fr f5 X3.out.lt (by simp))
      have INV := AloInv.keep INV f5
      clear f5
      obtain ⟨c0, c1, c2, c3, c4, c5⟩ := it_cells B5.out
      obtain ⟨d0, d1, d2, d3, d4, d5⟩ := it_cells X5.out
      go_wp2_with fail
      clear c0 c1 c2 c3 c4 c5 d0 d1 d2 d3 d4 d5
      refine (clear_any INV.out.a).mono ?_
      rintro e w6 ⟨rfl, a6, f6⟩
      have a6' : Al w6 g1 gb1 [false] false 0 false 0 0 := a6
      have INV := AloInv.turn INV f6 a6'
      clear a6 a6' f6
      go_wp2_with fail
      refine (met_no INV.out.a rfl).mono ?_
      rintro e w7 ⟨rfl, f7⟩
      have INV := AloInv.keep INV f7
      clear f7
      go_wp2_with fail
      have INV := AloInv.keep INV ((Fr.refl w7.heap.size [] w7).alloc (Nat.le_refl _) (.cells It0 66))
      generalize w7.alloc _ = w8 at *
      refine (blocked_in INV.out.a 0 false rfl).mono ?_
      rintro e w9 ⟨rfl, rfl⟩
      go_wp2_with fail
      go_roundw
      case rel => exact ⟨k + 1, by omega, by go_num, INV.out⟩
      case measure => simp [intOf]; omega
    · obtain rfl : k = n := by omega
      go_wp2_with fail
      refine (met_no INV.out.z rfl).mono ?_
      rintro e w4 ⟨rfl, f4⟩
      have INV := AloInv.keep INV f4
      clear f4
      go_wp2_with fail
      have INV := AloInv.keep INV ((Fr.refl w4.heap.size [] w4).alloc (Nat.le_refl _) (.cells It0 66))
      generalize w4.alloc _ = w5 at *
      refine (none_pick INV.out.z).mono ?_
      rintro e w6 ⟨rfl, f6⟩
      have INV := AloInv.keep INV f6
      clear f6
      go_wp2_with fail
      refine (none_open INV.out.z).mono ?_
      rintro e w7 ⟨⟨A7, c7, rfl⟩, f7⟩
      have INV := AloInv.keep INV f7
      clear f7
      go_wp2_with fail
      refine (block_out INV.out.z 0 rfl true 0 0 0 0 false).mono ?_
      rintro e w8 ⟨rfl, f8⟩
      have INV := AloInv.keep INV f8
      clear f8
      go_wp2_with fail
      go_ret
      exact ⟨rfl, INV.out.fr.below⟩
end Go.Proofs.Ytkmkdodhahcpdaa
