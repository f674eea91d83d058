/- The contracts of package route, fourth part: texts, and merging. -/
import Derived.Test.YtkgllkoooohikaaRouteC
import Derived.Test.YtkgllkoooohikaaOctet
namespace Go.Proofs.Ytkgllkoooohikaa
open Go.RowKit Go.Fb

def digits (r : Nat → Int) (n : Nat) : List Int := (List.range n).map fun k => 48 + r k
theorem digits_succ (r : Nat → Int) (n : Nat) : digits r (n + 1) = digits r n ++ [48 + r n] := by
  unfold digits; rw [List.range_succ, List.map_append]; rfl
theorem digits_length (r : Nat → Int) (n : Nat) : (digits r n).length = n := by simp [digits]
theorem inTo_get {p : Int} {r : Nat → Int} {n k : Nat} (h : inTo p r n = true) (hk : k < n) : 0 ≤ r k ∧ r k < p := by
  unfold inTo at h
  rw [List.all_eq_true] at h
  have := h k (by simpa using hk)
  simpa using this
theorem right8_get {p : Int} {r : Nat → Int} {k : Nat} (h : right8 p r = true) (hk : k < 8) : 0 ≤ r k ∧ r k < p := by
  unfold right8 at h
  rw [Bool.and_eq_true] at h
  exact inTo_get h.2 hk

set_option maxRecDepth 100000 in
theorem text_no (r : Nat → Int) (w : World) (h : right8 3 r = false) : Calls Try.prog 51 #[A8 r] w fun e w' => e = .returned (.string ByteArray.empty) ∧ Fr w.heap.size [] w w' := by
  have hr := fun w => right_any 3 r w
  rw [h] at hr
  have HR := Lib.hid hr
  clear hr h
  go_enter Try.func51, Try.ntmps51
  go_wp2_with (go_at_call 53; refine (HR.out _).mono ?_; rintro e w1 ⟨rfl, hf⟩; have HF := Lib.hid hf; clear hf)
  go_ret
  exact ⟨rfl, ((Fr.refl _ _ _).alloc (Nat.le_refl _) _).trans (HF.out.mono (by simp) (by simp))⟩
set_option maxRecDepth 100000 in
theorem text_yes (r : Nat → Int) (w : World) (h : right8 3 r = true) : Calls Try.prog 51 #[A8 r] w fun e w' => e = .returned (.string (strOfNums (digits r 8))) ∧ Fr w.heap.size [] w w' := by
  have hr := fun w => right_any 3 r w
  rw [h] at hr
  have HR := Lib.hid hr
  have HV := Lib.hid h
  clear hr h
  go_enter Try.func51, Try.ntmps51
  go_wp2_with fail
  refine (HR.out _).mono ?_
  rintro e w1 ⟨rfl, hf⟩
  have hb := (Blk.new w 64 (C8 r)).fr hf (by simp) (by simp)
  have HF := Lib.hid (((Fr.refl _ _ _).alloc (Nat.le_refl _) _).trans (hf.mono (by simp) (by simp)) : Fr w.heap.size [] w w1)
  have h0 := hb.cell 0
  have h1 := hb.cell 1
  have h2 := hb.cell 2
  have h3 := hb.cell 3
  have h4 := hb.cell 4
  have h5 := hb.cell 5
  have h6 := hb.cell 6
  have h7 := hb.cell 7
  have hsz := HF.out.size
  clear hf hb
  go_wp2_with fail
  clear h0 h1 h2 h3 h4 h5 h6 h7
  go_loopw [3, 10] (fun s i wr => ∃ (k : Nat) (A : Option Addr) (c : Nat), k ≤ 8 ∧ i = .int .i64 k ∧ s = .slice A k c ∧ wr.ownsRow w.heap.size 5 1 (.slice A k c) k ((digits r k).map (Value.int .u8)) ∧ Fr w.heap.size [] w wr) (fun _ i _ => 8 - (intOf i).toNat)
  case atStart => exact ⟨0, none, 0, by omega, rfl, rfl, (World.ownsRow_nil _ _ _ _ : w1.ownsRow _ _ _ _ 0 []), HF.out⟩
  case round =>
    obtain ⟨k, A, c, hk, rfl, rfl, hown, hfr⟩ := hrel
    have hszr := hfr.size
    have HFR := Lib.hid hfr
    clear hfr
    by_cases hlt : k < 8
    · have hx := index8 r hlt
      obtain ⟨g0, g1⟩ := right8_get HV.out hlt
      go_wp2_with (at_builtin; refine wpList_app_lit _ rfl (.tmp 13) (.tmp 17) bytesTy rfl w.heap.size (.slice A k c) _ _ rfl hown 1 1 _ rfl rfl (by simp [Value.oneCell']) (by omega) (by omega) (by omega) ?_; intro A' c' w2 hown2 hg2 hat2)
      go_roundw
      case rel =>
        refine ⟨k + 1, A', c', by omega, by go_num, rfl, ?_, HFR.out.trans (Fr.of_app hg2 hown (by omega))⟩
        rw [digits_succ, List.map_append (l₁ := digits r k)]
        exact hown2
      case measure => simp [intOf]; omega
    · obtain rfl : k = 8 := by omega
      have hcv := run_convert_own Try.underlying116 Try.underlying5 Try.underlying9 hown
      clear hown
      go_wp2_with fail
      go_ret
      exact ⟨rfl, HFR.out⟩

/-- A route with some groups given to a task. -/
def mergeR (r : Nat → Int) (xs : List Int) (to : Int) (k : Nat) : Int := if 0 ≤ to ∧ to < 3 ∧ hasI xs k = true then to else r k
/-- What a text's bytes say of a route. -/
def parseR (s : ByteArray) (k : Nat) : Int := (bl s).getD k 0 - 48
theorem bl_get {s : ByteArray} {k : Nat} (h : k < s.size) : (bl s)[k]? = some (s[k].toNat : Int) := by
  have hkd : k < s.data.size := h
  unfold bl
  rw [List.getElem?_map, List.getElem?_eq_getElem (by rw [Array.length_toList]; exact hkd)]
  rfl
theorem parseR_get {s : ByteArray} {k : Nat} (h : k < s.size) : parseR s k = (s[k].toNat : Int) - 48 := by
  unfold parseR
  rw [List.getD_eq_getElem?_getD, bl_get h]
  rfl
def parseOk (s : ByteArray) : Bool := decide (s.size = 8) && right8 3 (parseR s)
def ParseOut (s : ByteArray) (w : World) (e : Ending) (w' : World) : Prop :=
  e = .returned (.tuple #[A8 (if parseOk s = true then parseR s else fun _ => 0), .int .i64 (if parseOk s = true then 0 else 4)]) ∧ Fr w.heap.size [] w w'
theorem right_even2 : right8 2 (evenR 2) = true := by decide
theorem digits_even2 : (strOfNums (digits (evenR 2) 8)).toList = [48, 48, 48, 48, 49, 49, 49, 49] := by
  rw [ByteArray.toList_eq, strOfNums_data]; rfl
theorem awake09 (w : World) : Calls Try.prog 29 #[] w fun e w' => e = .returned (.bool true) ∧ Below w.heap.size w w' := by
  have hd := digits_even2
  have ht := fun w => text_yes (evenR 2) w (by decide)
  have hr := fun w => right_any 2 (evenR 2) w
  rw [right_even2] at hr
  generalize strOfNums (digits (evenR 2) 8) = sx at *
  have HT := Lib.hid ht
  have HR := Lib.hid hr
  have hd' : (sx.toList == [48, 48, 48, 48, 49, 49, 49, 49]) = true := by rw [hd]; rfl
  clear hd ht hr
  go_enter Try.func29, Try.ntmps29
  go_wp2_with fail
  refine (even_any 2 _).mono ?_
  rintro e w1 ⟨rfl, f1⟩
  go_wp2_with fail
  refine (HT.out _).mono ?_
  rintro e w2 ⟨rfl, f2⟩
  go_wp2_with fail
  refine (even_any 2 _).mono ?_
  rintro e w3 ⟨rfl, f3⟩
  go_wp2_with fail
  refine (HR.out _).mono ?_
  rintro e w4 ⟨rfl, f4⟩
  have hb := ((f1.trans (f2.mono f1.size (by simp))).trans (f3.mono (Nat.le_trans f1.size f2.size) (by simp))).trans (f4.mono (Nat.le_trans f1.size (Nat.le_trans f2.size f3.size)) (by simp))
  have HB := Lib.hid hb
  clear f1 f2 f3 f4 hb
  go_wp2_with fail
  go_ret
  exact ⟨rfl, HB.out.below⟩
end Go.Proofs.Ytkgllkoooohikaa
