/- The contracts of package align, fourth part: open and picked. -/
import Derived.Test.YtkmkdodhahcpdaaAlignD
namespace Go.Proofs.Ytkmkdodhahcpdaa
open Go.RowKit Go.Fb
section
variable {w : World} {g gb : Nat} {bs : List Bool} {b : Bool} {ep : Int} {p : Bool} {many last : Int}
/-- Who isn't blocked. -/
def offB (bs : List Bool) (k : Nat) : Bool := !(bs.getD k true)
theorem offB_of {k : Nat} {x : Bool} (hx : bs[k]? = some x) : offB bs k = !x := by simp [offB, List.getD, hx]
theorem bs_some {k : Nat} (h : k < bs.length) : ∃ x, bs[k]? = some x := ⟨bs[k], List.getElem?_eq_getElem h⟩
set_option maxRecDepth 100000 in
theorem open_any (h : Al w g gb bs b ep p many last) (hb : bs.length ≤ 64) : Calls Try.prog 36 #[.pointer (some ⟨g, 0, none⟩)] w (RetInts w (someTo (offB bs) bs.length)) := by
  have hc6 := h.st.cell 6
  have hlt := h.st.lt
  have hltb := h.bl.lt
  have HC := Lib.hid (fun (k : Nat) (x : Bool) (hx : bs[k]? = some x) => h.cellb hx)
  have HX := Lib.hid (fun (k : Nat) (hk : k < bs.length) => bs_some hk)
  clear h
  generalize hm : bs.length = m at *
  clear hm
  go_enter Try.func36, Try.ntmps36
  go_wp2_with fail
  go_loopw [3, 13] (fun s i wr => ∃ (k : Nat) (n : Nat) (A : Option Addr) (c : Nat), k ≤ m ∧ i = .int .i64 k ∧ s = .slice A n c ∧ n ≤ 64 ∧ n = (someTo (offB bs) k).length ∧ wr.ownsRow w.heap.size 3 1 (.slice A n c) n ((someTo (offB bs) k).map (Value.int .i64)) ∧ Fr w.heap.size [] w wr) (fun _ i _ => m - (intOf i).toNat)
  case atStart => exact ⟨0, 0, none, 0, by omega, rfl, rfl, by omega, rfl, (World.ownsRow_nil _ _ _ _ : w.ownsRow _ _ _ _ 0 []), Fr.refl _ _ _⟩
  case round =>
    obtain ⟨k, n, A, c, hk, rfl, rfl, hn8, hn, hown, hfr⟩ := hrel
    have HN := Lib.hid hn
    have HO := Lib.hid hown
    have HR := Lib.hid hfr
    have hsz := hfr.size
    clear hn hown hfr
    by_cases hlt : k < m
    · obtain ⟨x, hx⟩ := HX.out k hlt
      have hcx := (HR.out.cell (p := ⟨gb, k, none⟩) hltb (by simp)).trans (HC.out k x hx)
      have hi : (k : Int) < (m : Int) := by omega
      have HF := Lib.hid (offB_of hx)
      have HS := Lib.hid (someTo_succ (offB bs) k)
      clear hx
      cases x with
      | false =>
        go_wp2_with (at_builtin; refine wpList_app_lit _ rfl (.tmp 20) (.tmp 22) intsTy rfl w.heap.size (.slice A n c) _ _ rfl HO.out 1 1 _ rfl rfl (by simp [Value.oneCell']) (by omega) (by omega) (by omega) ?_; intro A' c' w2 hown2 hg2 hat2)
        go_roundw
        case rel =>
          have hl := someTo_length (offB bs) k
          have hn' := HN.out
          refine ⟨k + 1, n + 1, A', c', by omega, by go_num, rfl, by omega, ?_, ?_, HR.out.trans (Fr.of_app hg2 HO.out (by omega))⟩
          · rw [HS.out, HF.out]; simp; exact HN.out
          · rw [HS.out, HF.out]; simpa using hown2
        case measure => simp [intOf]; omega
      | true =>
        go_wp2_with fail
        go_roundw
        case rel =>
          refine ⟨k + 1, n, A, c, by omega, by go_num, rfl, hn8, ?_, ?_, HR.out⟩
          · rw [HS.out, HF.out]; simpa using HN.out
          · rw [HS.out, HF.out]; simpa using HO.out
        case measure => simp [intOf]; omega
    · obtain rfl : k = m := by omega
      go_wp2_with fail
      go_ret
      refine ⟨A, c, ?_, ?_, HR.out⟩
      · rw [← HN.out]; rfl
      · rw [← HN.out]; exact HO.out

/-- The channel that is looked at in a round of Pick. -/
def pickC (last : Int) (n k : Nat) : Nat := ((last + 1 + (k : Int)) % (n : Int)).toNat
/-- Would it be picked? -/
def freeAt (bs : List Bool) (has : Nat → Bool) (last : Int) (k : Nat) : Bool := offB bs (pickC last bs.length k) && has (pickC last bs.length k)
/-- What Pick does. -/
def PickOut (w : World) (g gb : Nat) (bs : List Bool) (b : Bool) (ep : Int) (p : Bool) (many last : Int) (has : Nat → Bool) (e : Ending) (w' : World) : Prop :=
  (∃ k, k < bs.length ∧ freeAt bs has last k = true ∧ (∀ j, j < k → freeAt bs has last j = false) ∧ e = .returned (.tuple #[.int .i64 (pickC last bs.length k), .bool true]) ∧ Al w' g gb bs b ep p many (pickC last bs.length k) ∧ Fr w.heap.size [g] w w')
  ∨ ((∀ j, j < bs.length → freeAt bs has last j = false) ∧ e = .returned (.tuple #[.int .i64 0, .bool false]) ∧ Fr w.heap.size [] w w')
theorem pickC_lt {n k : Nat} (h : 0 < n) : pickC last n k < n := by
  have := Int.emod_lt_of_pos (last + 1 + (k : Int)) (show (0 : Int) < n by omega)
  have := Int.emod_nonneg (last + 1 + (k : Int)) (show (n : Int) ≠ 0 by omega)
  unfold pickC
  omega
theorem pickC_rem {n k : Nat} (h : 0 < n) (hl : -1 ≤ last) : (last + 1 + (k : Int)).tmod (n : Int) = (pickC last n k : Int) := by
  rw [Int.tmod_eq_emod_of_nonneg (by omega)]
  have := Int.emod_nonneg (last + 1 + (k : Int)) (show (n : Int) ≠ 0 by omega)
  unfold pickC
  omega
theorem al_last (h : Al w g gb bs b ep p many last) (l : Int) : Al (w.setCell ⟨g, 8, none⟩ (.int .i64 l)) g gb bs b ep p many l :=
  ⟨by simpa using h.st.set_ 8 (.int .i64 l), h.bl.far (p := ⟨g, 8, none⟩) h.ne.symm _⟩
theorem func_nil (F : FuncId) (cap : Array Value) (w : World) : (binOp .eql 61 (.func (.func F) #[] cap) .nilFunc).run Try.prog w = .ok (.bool false) w := by
  kernel_rfl
set_option maxRecDepth 100000 in
theorem pick_any (F : FuncId) (cap : Array Value) (has : Nat → Bool) (h : Al w g gb bs b ep p many last) (hb : bs.length ≤ 64) (hl0 : -1 ≤ last) (hl1 : last < bs.length)
    (hent : ∀ (args : Array Value) (w : World), (callFunc F args).run Try.prog w = .ok (.enter F args) w)
    (hF : ∀ (k : Nat) (w' : World), k < bs.length → Fr w.heap.size [] w w' → Calls Try.prog F (#[.int .i64 k] ++ cap) w' fun e w'' => e = .returned (.bool (has k)) ∧ Fr w'.heap.size [] w' w'') :
    Calls Try.prog 31 #[.pointer (some ⟨g, 0, none⟩), .func (.func F) #[] cap] w (PickOut w g gb bs b ep p many last has) := by
  have hc6 := h.st.cell 6
  have hlt := h.st.lt
  have hltb := h.bl.lt
  have HA := Lib.hid h
  have HF := Lib.hid hF
  clear h hF
  generalize hm : bs.length = m at *
  have HM := Lib.hid hm
  clear hm
  have hfn := fun w => func_nil F cap w
  go_enter Try.func31, Try.ntmps31
  go_wp2_with fail
  clear hfn
  go_loopw [21] (fun i wr => ∃ k : Nat, k ≤ m ∧ i = .int .i64 k ∧ (∀ j, j < k → freeAt bs has last j = false) ∧ Fr w.heap.size [] w wr) (fun i _ => m - (intOf i).toNat)
  case atStart => exact ⟨0, by omega, rfl, fun j h => absurd h (by omega), Fr.refl _ _ _⟩
  case round =>
    obtain ⟨k, hk, rfl, hno, hfr⟩ := hrel
    have HNO := Lib.hid hno
    have HR := Lib.hid hfr
    have hsz := hfr.size
    clear hno hfr
    by_cases hkm : k < m
    · have hrem := pickC_rem (last := last) (n := m) (k := k) (by omega) hl0
      have hclt : pickC last m k < m := pickC_lt (by omega)
      have HFA : freeAt bs has last k = (offB bs (pickC last m k) && has (pickC last m k)) := by rw [freeAt, HM.out]
      generalize hcc : pickC last m k = c at *
      have HCC := Lib.hid hcc
      have HFA' := Lib.hid HFA
      clear hcc HFA
      obtain ⟨x, hx⟩ := bs_some (bs := bs) (k := c) (by rw [HM.out]; exact hclt)
      have hA := HA.out.fr0 HR.out
      have hcx := hA.cellb hx
      have hc6 := hA.st.cell 6
      rw [HM.out] at hc6
      have hc8 := hA.st.cell 8
      have hf8 := hA.st.frozen 8
      have hi : (c : Int) < (m : Int) := by omega
      have hki : (k : Int) < (m : Int) := by omega
      have hm0 : (m : Int) ≠ 0 := by omega
      have HO := Lib.hid (offB_of hx)
      have HAr := Lib.hid hA
      have hltr := hA.st.lt
      clear hx hA
      cases x with
      | true =>
        go_wp2_with fail
        go_roundw
        case rel =>
          refine ⟨k + 1, by omega, by go_num, ?_, HR.out⟩
          intro j hj
          rcases Nat.lt_or_ge j k with h | h
          · exact HNO.out j h
          · obtain rfl : j = k := by omega
            rw [HFA'.out, HO.out]; simp
        case measure => simp [intOf]; omega
      | false =>
        go_wp2_with fail
        refine (HF.out c wr hclt HR.out).mono ?_
        rintro e w1 ⟨rfl, hf1⟩
        have z1 := hf1.size
        have HA1 := Lib.hid (HAr.out.fr0 hf1)
        have HR1 := Lib.hid (HR.out.trans (hf1.mono (B' := w.heap.size) (L' := []) (by omega) (by simp)))
        clear hf1 hc6 hc8 hf8 hcx
        have hc8 := HA1.out.st.cell 8
        have hf8 := HA1.out.st.frozen 8
        have hlt1 := HA1.out.st.lt
        rcases Bool.eq_false_or_eq_true (has c) with hh | hh
        · have HH := Lib.hid hh
          rw [hh]
          clear hh
          go_wp2_with fail
          go_ret2
          refine .inl ⟨k, by rw [HM.out]; exact hkm, by rw [HFA'.out, HO.out, HH.out]; rfl, HNO.out, by rw [HM.out, HCC.out]; rfl, ?_, (HR1.out.mono (L' := [g]) (Nat.le_refl _) (by simp)).setCell (p := ⟨g, 8, none⟩) (.inr (by simp)) _⟩
          rw [HM.out, HCC.out]
          exact al_last HA1.out _
        · have HH := Lib.hid hh
          rw [hh]
          clear hh
          go_wp2_with fail
          go_roundw
          case rel =>
            refine ⟨k + 1, by omega, by go_num, ?_, HR1.out⟩
            intro j hj
            rcases Nat.lt_or_ge j k with h | h
            · exact HNO.out j h
            · obtain rfl : j = k := by omega
              rw [HFA'.out, HO.out, HH.out]; rfl
          case measure => simp [intOf]; omega
    · obtain rfl : k = m := by omega
      go_wp2_with fail
      go_ret2
      exact .inr ⟨by rw [HM.out]; exact HNO.out, rfl, HR.out⟩
end
end Go.Proofs.Ytkmkdodhahcpdaa
