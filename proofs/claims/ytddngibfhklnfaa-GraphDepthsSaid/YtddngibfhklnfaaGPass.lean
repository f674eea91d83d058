/- The contract of graph.Pass. -/
import Derived.Test.YtddngibfhklnfaaNdM
namespace Go.Proofs.Ytddngibfhklnfaa
open Go.RowKit Go.Fb
def parP (p : Int) : Int := min (max p 1) 3
theorem parP_in (p : Int) : 1 ≤ parP p ∧ parP p ≤ 3 := by unfold parP; omega
def rtk (k : Nat) (p : Int) (g : Nat) : Int := if g < k then (g : Int) % p else 0
def pasN (k : Nat) (p : Int) : Nd := ⟨0, 0, p, [], [], rtk k p⟩
def pasS (p : Int) : Nd := ⟨1, 2, p, [0], [], rtk 8 p⟩
/-- A graph that lets all pass. -/
def passL (p : Int) : List Nd := [pasN 8 (parP p), pasS (parP p)]
theorem pas_set (p : Int) (k : Nat) (hk : k < 8) : (ndA (pasN k p) (.slice none 0 0) (.slice none 0 0)).setIfInBounds (5 + k) (.int .i64 ((k : Int) % p)) = ndA (pasN (k + 1) p) (.slice none 0 0) (.slice none 0 0) := by
  rcases (show k = 0 ∨ k = 1 ∨ k = 2 ∨ k = 3 ∨ k = 4 ∨ k = 5 ∨ k = 6 ∨ k = 7 by omega) with rfl | rfl | rfl | rfl | rfl | rfl | rfl | rfl <;> simp [ndA, pasN, rtk]
theorem pas_get (p : Int) (k : Nat) (hk : k < 8) : (ndA (pasN k p) (.slice none 0 0) (.slice none 0 0))[5 + k]? = some (.int .i64 0) := by
  rcases (show k = 0 ∨ k = 1 ∨ k = 2 ∨ k = 3 ∨ k = 4 ∨ k = 5 ∨ k = 6 ∨ k = 7 by omega) with rfl | rfl | rfl | rfl | rfl | rfl | rfl | rfl <;> simp [ndA, pasN, rtk]
theorem owns_blk {w : World} {g base e size n : Nat} {cs : Array Value} (h : Blk w g e cs) (hs : cs.size = n * size) (hb : base ≤ g) (hn : n ≤ maxLen) : w.ownsRow base e size (.slice (some ⟨g, 0, none⟩) n n) n cs.toList := by
  refine ⟨by simpa using hs, .inr ⟨g, n, cs, rfl, hb, h, Nat.le_refl _, hn, hs, ?_⟩⟩
  exact List.take_of_length_le (by simp [hs])
def PassOut (p : Int) (w : World) (e : Ending) (w' : World) : Prop :=
  ∃ A c M, e = .returned (.slice A 2 c) ∧ Nmd w.heap.size w' A 2 c M ∧ fstN M = passL p ∧ Fr w.heap.size [] w w'
set_option maxRecDepth 100000 in
set_option maxHeartbeats 4000000 in
theorem pass_any (par : Int) (w : World) : Calls Try.prog 44 #[.int .i64 par] w (PassOut par w) := by
  obtain ⟨p, hp⟩ : ∃ p, p = min (max par 1) 3 := ⟨_, rfl⟩
  have HP := Lib.hid (show p = parP par from hp)
  have hp1 : 1 ≤ p := by omega
  have hp3 : p ≤ 3 := by omega
  have BA0 := Blk.new w 38 (ndA (pasN 0 p) (.slice none 0 0) (.slice none 0 0))
  have F0 := (Fr.refl w.heap.size [] w).alloc (Nat.le_refl _) (.cells (ndA (pasN 0 p) (.slice none 0 0) (.slice none 0 0)) 38)
  have HB := Lib.hid BA0
  have HF := Lib.hid F0
  clear BA0 F0
  go_enter Try.func44, Try.ntmps44
  go_wp2_with fail
  rw [← hp]
  have HB1 : RowKit.Hid (Blk (w.alloc (.cells #[.int .i64 0, .int .i64 0, .slice none 0 0, .slice none 0 0, .int .i64 p, .int .i64 0, .int .i64 0, .int .i64 0, .int .i64 0, .int .i64 0, .int .i64 0, .int .i64 0, .int .i64 0] 38)) w.heap.size 38 (ndA (pasN 0 p) (.slice none 0 0) (.slice none 0 0))) := HB
  have HF1 : RowKit.Hid (Fr w.heap.size [] w (w.alloc (.cells #[.int .i64 0, .int .i64 0, .slice none 0 0, .slice none 0 0, .int .i64 p, .int .i64 0, .int .i64 0, .int .i64 0, .int .i64 0, .int .i64 0, .int .i64 0, .int .i64 0, .int .i64 0] 38))) := HF
  clear hp HB HF
  generalize w.alloc (.cells #[.int .i64 0, .int .i64 0, .slice none 0 0, .slice none 0 0, .int .i64 p, .int .i64 0, .int .i64 0, .int .i64 0, .int .i64 0, .int .i64 0, .int .i64 0, .int .i64 0, .int .i64 0] 38) = w1 at *
  go_loopg [4, 11] 8 (fun g s4 s11 wr => ∃ k : Nat, k ≤ 8 ∧ g = 8 - k ∧ s11 = .int .i64 k ∧ RowKit.Hid (Blk wr w.heap.size 38 (ndA (pasN k p) (.slice none 0 0) (.slice none 0 0))) ∧ RowKit.Hid (Fr w.heap.size [] w wr))
  case atStart => exact ⟨0, Nat.zero_le _, rfl, rfl, HB1, HF1⟩
  case round =>
    obtain ⟨k, hk, rfl, rfl, HB, HF⟩ := hrel
    by_cases hk8 : k < 8
    · have hki : (k : Int) < 8 := by omega
      have hk0 : (0 : Int) ≤ (k : Int) := by omega
      have c5 := HB.out.cell (5 + k)
      rw [pas_get p k hk8] at c5
      have z5 := HB.out.frozen (5 + k)
      have HB2 := Lib.hid (HB.out.set_ (5 + k) (.int .i64 ((k : Int) % p)))
      rw [pas_set p k hk8] at HB2
      have HF2 := Lib.hid (HF.out.setCell (p := ⟨w.heap.size, 5 + k, none⟩) (.inl (Nat.le_refl _)) (.int .i64 ((k : Int) % p)))
      have hmod : (k : Int).tmod p = (k : Int) % p := Int.tmod_eq_emod_of_nonneg hk0
      go_wp2_with fail
      go_roundg (8 - (k + 1))
      case measure => omega
      case rel => exact ⟨k + 1, by omega, rfl, by go_num, HB2, HF2⟩
    · obtain rfl : k = 8 := by omega
      obtain ⟨x, hx⟩ : ∃ x, x = pasN 8 p := ⟨_, rfl⟩
      have HX := Lib.hid hx
      rw [← hx] at HB
      clear hx
      have q0 := HB.out.cell 0
      have q1 := HB.out.cell 1
      have q2 := HB.out.cell 2
      have q3 := HB.out.cell 3
      have q4 := HB.out.cell 4
      have q5 := HB.out.cell 5
      have q6 := HB.out.cell 6
      have q7 := HB.out.cell 7
      have q8 := HB.out.cell 8
      have q9 := HB.out.cell 9
      have q10 := HB.out.cell 10
      have q11 := HB.out.cell 11
      have q12 := HB.out.cell 12
      simp at q0 q1 q2 q3 q4 q5 q6 q7 q8 q9 q10 q11 q12
      have BA := Lib.hid (HB.out.alloc (.cells (ndA x (.slice none 0 0) (.slice none 0 0)) 38))
      have BB := Lib.hid (Blk.new wr 38 (ndA x (.slice none 0 0) (.slice none 0 0)))
      have F2 := Lib.hid (HF.out.alloc HF.out.size (.cells (ndA x (.slice none 0 0) (.slice none 0 0)) 38))
      have hlt := HF.out.size
      have hga := HB.out.lt
      clear HB HF
      go_upto_region 9 with fail
      clear q0 q1 q2 q3 q4 q5 q6 q7 q8 q9 q10 q11 q12
      generalize wr.alloc (.cells (ndA x (.slice none 0 0) (.slice none 0 0)) 38) = w2 at *
      generalize wr.heap.size = gb at *
      have hgb := BB.out.lt
      have b0 := BB.out.cell 0
      have b1 := BB.out.cell 1
      have b2 := BB.out.cell 2
      have z0 := BB.out.frozen 0
      have z1 := BB.out.frozen 1
      have z2 := BB.out.frozen 2
      simp at b0 b1 b2
      go_upto_region 10 with fail
      obtain ⟨y, hy⟩ : ∃ y : Nd, y = ⟨1, 2, x.par, [0], [], x.rt⟩ := ⟨_, rfl⟩
      have BA3 := Lib.hid ((((BA.out.far (p := ⟨gb, 0, none⟩) (by simp; omega) (.int .i64 1)).far (p := ⟨gb, 1, none⟩) (by simp; omega) (.int .i64 2)).far (p := ⟨gb, 2, none⟩) (by simp; omega) (.slice (some ⟨w2.heap.size, 0, none⟩) 1 1)).alloc (.cells #[.int .i64 0] 3))
      have BB3 := Lib.hid (show Blk ((((w2.setCell ⟨gb, 0, none⟩ (.int .i64 1)).setCell ⟨gb, 1, none⟩ (.int .i64 2)).setCell ⟨gb, 2, none⟩ (.slice (some ⟨w2.heap.size, 0, none⟩) 1 1)).alloc (.cells #[.int .i64 0] 3)) gb 38 (ndA y (.slice (some ⟨w2.heap.size, 0, none⟩) 1 1) (.slice none 0 0)) by
        have := (((BB.out.set_ 0 (.int .i64 1)).set_ 1 (.int .i64 2)).set_ 2 (.slice (some ⟨w2.heap.size, 0, none⟩) 1 1)).alloc (.cells #[.int .i64 0] 3)
        rw [hy]
        simpa using this)
      have BC0 := Blk.new (((w2.setCell ⟨gb, 0, none⟩ (.int .i64 1)).setCell ⟨gb, 1, none⟩ (.int .i64 2)).setCell ⟨gb, 2, none⟩ (.slice (some ⟨w2.heap.size, 0, none⟩) 1 1)) 3 #[.int .i64 0]
      rw [show (((w2.setCell ⟨gb, 0, none⟩ (.int .i64 1)).setCell ⟨gb, 1, none⟩ (.int .i64 2)).setCell ⟨gb, 2, none⟩ (.slice (some ⟨w2.heap.size, 0, none⟩) 1 1)).heap.size = w2.heap.size by simp [World.setCell]] at BC0
      have BC3 := Lib.hid BC0
      have F3 := Lib.hid ((((F2.out.setCell (p := ⟨gb, 0, none⟩) (.inl hlt) (.int .i64 1)).setCell (p := ⟨gb, 1, none⟩) (.inl hlt) (.int .i64 2)).setCell (p := ⟨gb, 2, none⟩) (.inl hlt) (.slice (some ⟨w2.heap.size, 0, none⟩) 1 1)).alloc (by have := F2.out.size; simp [World.setCell]; exact this) (.cells #[.int .i64 0] 3))
      have HY := Lib.hid hy
      clear BA BB F2 b0 b1 b2 z0 z1 z2 BC0 hy
      generalize (((w2.setCell ⟨gb, 0, none⟩ (.int .i64 1)).setCell ⟨gb, 1, none⟩ (.int .i64 2)).setCell ⟨gb, 2, none⟩ (.slice (some ⟨w2.heap.size, 0, none⟩) 1 1)).alloc (.cells #[.int .i64 0] 3) = w3 at *
      generalize w2.heap.size = g2 at *
      have a0 := BA3.out.cell 0
      have a1 := BA3.out.cell 1
      have a2 := BA3.out.cell 2
      have a3 := BA3.out.cell 3
      have a4 := BA3.out.cell 4
      have a5 := BA3.out.cell 5
      have a6 := BA3.out.cell 6
      have a7 := BA3.out.cell 7
      have a8 := BA3.out.cell 8
      have a9 := BA3.out.cell 9
      have a10 := BA3.out.cell 10
      have a11 := BA3.out.cell 11
      have a12 := BA3.out.cell 12
      simp at a0 a1 a2 a3 a4 a5 a6 a7 a8 a9 a10 a11 a12
      have b0 := BB3.out.cell 0
      have b1 := BB3.out.cell 1
      have b2 := BB3.out.cell 2
      have b3 := BB3.out.cell 3
      have b4 := BB3.out.cell 4
      have b5 := BB3.out.cell 5
      have b6 := BB3.out.cell 6
      have b7 := BB3.out.cell 7
      have b8 := BB3.out.cell 8
      have b9 := BB3.out.cell 9
      have b10 := BB3.out.cell 10
      have b11 := BB3.out.cell 11
      have b12 := BB3.out.cell 12
      simp at b0 b1 b2 b3 b4 b5 b6 b7 b8 b9 b10 b11 b12
      go_wp2_with fail
      go_ret
      have hx := HX.out
      have hy := HY.out
      subst hx
      have hg2 : w.heap.size ≤ g2 := by omega
      have B4 := Blk.new w3 38 (ndA (pasN 8 p) (.slice none 0 0) (.slice none 0 0) ++ ndA y (.slice (some ⟨g2, 0, none⟩) 1 1) (.slice none 0 0))
      have BC4 := BC3.out.alloc (.cells (ndA (pasN 8 p) (.slice none 0 0) (.slice none 0 0) ++ ndA y (.slice (some ⟨g2, 0, none⟩) 1 1) (.slice none 0 0)) 38)
      have F4 := F3.out.alloc F3.out.size (.cells (ndA (pasN 8 p) (.slice none 0 0) (.slice none 0 0) ++ ndA y (.slice (some ⟨g2, 0, none⟩) 1 1) (.slice none 0 0)) 38)
      have hc3 := BC3.out.lt
      have h3 := F3.out.size
      refine ⟨some ⟨w3.heap.size, 0, none⟩, 2, [(pasN 8 p, .slice none 0 0, .slice none 0 0), (y, .slice (some ⟨g2, 0, none⟩) 1 1, .slice none 0 0)], rfl, ⟨rfl, owns_blk B4 rfl h3 (by unfold maxLen; omega), ?_⟩, ?_, F4⟩
      · intro m hm
        simp only [List.mem_cons, List.not_mem_nil, or_false] at hm
        have hoff : Off (some w3.heap.size) (.slice none 0 0) := by intro A n c hv hn; injection hv; omega
        have hfre : Fresh w.heap.size (.slice none 0 0) := by intro A n c hv hn; injection hv; omega
        rcases hm with rfl | rfl
        · exact ⟨⟨⟨none, 0, rfl, Reads.none_⟩, ⟨none, 0, rfl, Reads.none_⟩⟩, hoff, hoff, hfre, hfre⟩
        · subst hy
          refine ⟨⟨⟨some ⟨g2, 0, none⟩, 1, rfl, (Reads.of_blk (size := 1) (m := 1) BC4 rfl).more (by simp; omega)⟩, ⟨none, 0, rfl, Reads.none_⟩⟩, ?_, hoff, ?_, hfre⟩
          · intro A n c hv hn ad ha e
            injection hv with h1 h2 h3
            subst h1
            injection ha with ha
            subst ha
            simp [Value.ownBlock] at e
            omega
          · intro A n c hv hn ad ha
            injection hv with h1 h2 h3
            subst h1
            injection ha with ha
            subst ha
            exact hg2
      · rw [hy, HP.out]
        rfl
end Go.Proofs.Ytddngibfhklnfaa
