/- The contracts of check.Check and check.Safe in the forms that the laws want, and the document's example. -/
import Derived.Test.YtndjgjnnoknblaaCheck
namespace Go.Proofs.Ytndjgjnnoknblaa
open Go.RowKit Go.Fb
/-- A report that lies in memory. -/
abbrev repV (gd n : Nat) (s : CS) : Array Value := #[.slice (some ⟨gd, 0, none⟩) n n, .int .i64 s.mx, .int .i64 s.em, .bool s.u0, .bool s.u1]
def ChkYes (n : Nat) (s : CS) (w : World) (e : Ending) (w' : World) : Prop :=
  ∃ gd, e = .returned (.tuple #[.agg (repV gd n s), .int .i64 0]) ∧ w.heap.size ≤ gd ∧ Blk w' gd 3 (intsA n s.D) ∧ Fr w.heap.size [] w w'
theorem check_yes {A : Option Addr} {c B : Nat} {l : List (Int × Int)} {s : CS} {w : World} (hr : Reads w B 2 A l.length (cellsI l)) (hB : B ≤ w.heap.size) (hn : l.length ≤ maxLen) (h : chkL l = some s) :
    Calls Try.prog 23 #[.slice A l.length c] w (ChkYes l.length s w) :=
  (check_any A c B l w hr hB hn).mono fun e w' ⟨h1, _, h3⟩ => by
    obtain ⟨gd, a, b, d⟩ := h1 s h
    exact ⟨gd, a, b, d, h3⟩
theorem check_no {A : Option Addr} {c B : Nat} {l : List (Int × Int)} {w : World} (hr : Reads w B 2 A l.length (cellsI l)) (hB : B ≤ w.heap.size) (hn : l.length ≤ maxLen) (h : chkL l = none) :
    Calls Try.prog 23 #[.slice A l.length c] w fun e w' => e = .returned (.tuple #[.agg #[.slice none 0 0, .int .i64 0, .int .i64 0, .bool false, .bool false], .int .i64 9]) ∧ Fr w.heap.size [] w w' :=
  (check_any A c B l w hr hB hn).mono fun _ _ ⟨_, h2, h3⟩ => ⟨h2 h, h3⟩
set_option maxRecDepth 100000 in
theorem safe_yes {A : Option Addr} {c B : Nat} {l : List (Int × Int)} {s : CS} {w : World} (hr : Reads w B 2 A l.length (cellsI l)) (hB : B ≤ w.heap.size) (hn : l.length ≤ maxLen) (h : chkL l = some s) :
    Calls Try.prog 22 #[.slice A l.length c] w fun e w' => e = .returned (.bool true) ∧ Fr w.heap.size [] w w' := by
  have H := Lib.hid (check_yes (c := c) hr hB hn h)
  clear hr hB hn h
  generalize l.length = n at *
  go_enter Try.func22, Try.ntmps22
  go_wp2_with fail
  refine H.out.mono ?_
  rintro e w1 ⟨gd, rfl, _, _, f1⟩
  have F1 := Lib.hid f1
  clear f1
  go_wp2_with fail
  go_ret
  exact ⟨rfl, F1.out.alloc F1.out.size _⟩
set_option maxRecDepth 100000 in
theorem safe_no {A : Option Addr} {c B : Nat} {l : List (Int × Int)} {w : World} (hr : Reads w B 2 A l.length (cellsI l)) (hB : B ≤ w.heap.size) (hn : l.length ≤ maxLen) (h : chkL l = none) :
    Calls Try.prog 22 #[.slice A l.length c] w fun e w' => e = .returned (.bool false) ∧ Fr w.heap.size [] w w' := by
  have H := Lib.hid (check_no (c := c) hr hB hn h)
  clear hr hB hn h
  generalize l.length = n at *
  go_enter Try.func22, Try.ntmps22
  go_wp2_with fail
  refine H.out.mono ?_
  rintro e w1 ⟨rfl, f1⟩
  have F1 := Lib.hid f1
  clear f1
  go_wp2_with fail
  go_ret
  exact ⟨rfl, F1.out.alloc F1.out.size _⟩
theorem awake_one : ∃ s, chkL [(3, 0), (14, 0)] = some s ∧ s.D 0 = 0 ∧ s.D 1 = 1 ∧ s.mx = 1 ∧ s.em = 1 := ⟨_, rfl, rfl, rfl, rfl, rfl⟩
theorem awake_two : chkL [(14, 0)] = none := rfl
set_option maxRecDepth 100000 in
theorem awake05 (w : World) : Calls Try.prog 21 #[] w fun e w' => e = .returned (.bool true) ∧ Below w.heap.size w w' := by
  obtain ⟨s, hs, d0, d1, hmx, hem⟩ := awake_one
  have r1 := (Reads.of_blk (size := 2) (m := 2) (Blk.new w 49 #[.int .i64 3, .int .i64 0, .int .i64 14, .int .i64 0]) rfl)
  have h1 := (check_yes (A := some ⟨w.heap.size, 0, none⟩) (c := 2) (l := [(3, 0), (14, 0)]) (w := w.alloc (.cells #[.int .i64 3, .int .i64 0, .int .i64 14, .int .i64 0] 49)) r1 (by simp) (by simp [maxLen]) hs)
  rw [show ([(3, 0), (14, 0)] : List (Int × Int)).length = 2 from rfl] at h1
  have H1 := Lib.hid h1
  clear h1
  have HS := Lib.hid (show intsA 2 s.D = #[.int .i64 0, .int .i64 1] by simp [intsA, d0, d1, List.range_succ])
  have h2 := (fun (w' : World) => safe_no (A := some ⟨w'.heap.size, 0, none⟩) (c := 1) (l := [(14, 0)]) (w := w'.alloc (.cells #[.int .i64 14, .int .i64 0] 49)) (Reads.of_blk (size := 2) (m := 1) (Blk.new w' 49 #[.int .i64 14, .int .i64 0]) rfl) (by simp) (by simp [maxLen]) awake_two)
  rw [show ([(14, 0)] : List (Int × Int)).length = 1 from rfl] at h2
  have H2 := Lib.hid (fun (w' : World) (g : Nat) (hg : w'.heap.size = g) => by have h := h2 w'; rw [hg] at h; exact h)
  clear h2
  clear hs d0 d1 r1
  go_enter Try.func21, Try.ntmps21
  go_wp2_with fail
  refine H1.out.mono ?_
  rintro e w1 ⟨gd, rfl, hgd, bd, f1⟩
  rw [HS.out] at bd
  have F1 := Lib.hid (((Below.refl _ w).alloc (Nat.le_refl _) _).trans (f1.below.mono (by simp)))
  have e0 := bd.cell 0
  have e1 := bd.cell 1
  have hlt := bd.lt
  simp at e0 e1
  clear f1 bd hgd H1 HS
  go_wp2_with fail
  refine (H2.out _ _ (by simp)).mono ?_
  rintro e w2 ⟨rfl, f2⟩
  go_wp2_with fail
  go_ret
  exact ⟨rfl, ((F1.out.alloc F1.out.size _).alloc (by have := F1.out.size; simp; omega) _).trans (f2.below.mono (by have := F1.out.size; simp; omega))⟩
end Go.Proofs.Ytndjgjnnoknblaa
