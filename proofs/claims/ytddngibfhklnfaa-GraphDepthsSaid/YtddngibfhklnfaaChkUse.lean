/- The contracts of check.Check and check.Safe in the forms that the laws want, and the document's example. -/
import Derived.Test.YtddngibfhklnfaaCheck
namespace Go.Proofs.Ytddngibfhklnfaa
open Go.RowKit Go.Fb
/-- A report that lies in memory. -/
abbrev repV (gd n : Nat) (s : CS) : Array Value := #[.slice (some ⟨gd, 0, none⟩) n n, .int .i64 s.mx, .int .i64 s.em, .bool s.u0, .bool s.u1]
def ChkYes (n : Nat) (s : CS) (w : World) (e : Ending) (w' : World) : Prop :=
  ∃ gd, e = .returned (.tuple #[.agg (repV gd n s), .int .i64 0]) ∧ w.heap.size ≤ gd ∧ Blk w' gd 3 (intsA n s.D) ∧ Fr w.heap.size [] w w'
theorem check_yes {A : Option Addr} {c B : Nat} {l : List (Int × Int)} {s : CS} {w : World} (hr : Reads w B 2 A l.length (cellsI l)) (hB : B ≤ w.heap.size) (hn : l.length ≤ maxLen) (h : chkL l = some s) :
    Calls Try.prog 110 #[.slice A l.length c] w (ChkYes l.length s w) :=
  (check_any A c B l w hr hB hn).mono fun e w' ⟨h1, _, h3⟩ => by
    obtain ⟨gd, a, b, d⟩ := h1 s h
    exact ⟨gd, a, b, d, h3⟩
theorem check_no {A : Option Addr} {c B : Nat} {l : List (Int × Int)} {w : World} (hr : Reads w B 2 A l.length (cellsI l)) (hB : B ≤ w.heap.size) (hn : l.length ≤ maxLen) (h : chkL l = none) :
    Calls Try.prog 110 #[.slice A l.length c] w fun e w' => e = .returned (.tuple #[.agg #[.slice none 0 0, .int .i64 0, .int .i64 0, .bool false, .bool false], .int .i64 9]) ∧ Fr w.heap.size [] w w' :=
  (check_any A c B l w hr hB hn).mono fun _ _ ⟨_, h2, h3⟩ => ⟨h2 h, h3⟩
set_option maxRecDepth 100000 in
theorem safe_yes {A : Option Addr} {c B : Nat} {l : List (Int × Int)} {s : CS} {w : World} (hr : Reads w B 2 A l.length (cellsI l)) (hB : B ≤ w.heap.size) (hn : l.length ≤ maxLen) (h : chkL l = some s) :
    Calls Try.prog 95 #[.slice A l.length c] w fun e w' => e = .returned (.bool true) ∧ Fr w.heap.size [] w w' := by
  have H := Lib.hid (check_yes (c := c) hr hB hn h)
  clear hr hB hn h
  generalize l.length = n at *
  go_enter Try.func95, Try.ntmps95
  go_wp2_with fail
  refine H.out.mono ?_
  rintro e w1 ⟨gd, rfl, _, _, f1⟩
  have F1 := Lib.hid f1
  clear f1
  go_wp2_with fail
  go_ret
  exact ⟨rfl, F1.out.alloc F1.out.size _⟩
set_option maxRecDepth 100000 in
theorem safe_no {A : Option Addr} {c B : Nat} {l : List (Int × Int)} {w : World} (hr : Reads w B 2 A l.length (cellsI l)) (hB : B ≤ w.heap.size) (hn : l.length ≤ maxLen) (h : chkL l = none) :
    Calls Try.prog 95 #[.slice A l.length c] w fun e w' => e = .returned (.bool false) ∧ Fr w.heap.size [] w w' := by
  have H := Lib.hid (check_no (c := c) hr hB hn h)
  clear hr hB hn h
  generalize l.length = n at *
  go_enter Try.func95, Try.ntmps95
  go_wp2_with fail
  refine H.out.mono ?_
  rintro e w1 ⟨rfl, f1⟩
  have F1 := Lib.hid f1
  clear f1
  go_wp2_with fail
  go_ret
  exact ⟨rfl, F1.out.alloc F1.out.size _⟩
theorem awake_one : ∃ s, chkL [(3, 0), (14, 0)] = some s ∧ s.D 0 = 0 ∧ s.D 1 = 1 ∧ s.mx = 1 ∧ s.em = 1 := ⟨_, rfl, rfl, rfl, rfl, rfl⟩
theorem awake_two : chkL [(14, 0)] = none := rfl
end Go.Proofs.Ytddngibfhklnfaa
