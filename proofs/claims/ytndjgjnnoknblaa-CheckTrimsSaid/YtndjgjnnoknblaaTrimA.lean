/- The contracts of check.over and check.lives: which instructions stay. -/
import Derived.Test.YtndjgjnnoknblaaTrim
import Derived.Test.YtndjgjnnoknblaaChkUse
namespace Go.Proofs.Ytndjgjnnoknblaa
open Go.RowKit Go.Fb
/-- The cells of n bools. -/
def boolsA (n : Nat) (S : Nat → Bool) : Array Value := ((List.range n).map fun k => Value.bool (S k)).toArray
theorem boolsA_get {n k : Nat} (S : Nat → Bool) (h : k < n) : (boolsA n S)[k]? = some (.bool (S k)) := by simp [boolsA, h]
theorem boolsA_size (n : Nat) (S : Nat → Bool) : (boolsA n S).size = n := by simp [boolsA]
theorem boolsA_set {n k : Nat} (S : Nat → Bool) (u : Bool) : (boolsA n S).setIfInBounds k (.bool u) = boolsA n (updC S k u) := by
  apply Array.ext_getElem?
  intro i
  rw [Array.getElem?_setIfInBounds]
  by_cases hi : i < n
  · by_cases e : k = i
    · subst e; simp [boolsA, hi, updC]
    · have e' : ¬ i = k := fun h => e h.symm
      simp [boolsA, hi, e, e', updC]
  · by_cases e : k = i
    · subst e; simp [boolsA, hi]
    · simp [boolsA, hi, e]
theorem make_boolsA (n : Nat) (h : n ≤ 64) (W : World) : (Instr.makeSlice 93 (.int .i64 (n : Int)) (.int .i64 (n : Int))).run Try.prog W = .ok (.slice (some ⟨W.heap.size, 0, none⟩) n n) (W.alloc (.cells (boolsA n (fun _ => false)) 4)) := by
  have info : (Try.prog.info? 4).map (fun i => (i.zero, i.size, i.bytes)) = some (some (Value.bool false), 1, 1) := by kernel_rfl
  obtain ⟨i, hi, hz, hsz, hby⟩ := info_parts info
  have hr := run_make (P := Try.prog) W 93 4 i (.bool false) Try.underlying93 hi hz .i64 .i64 n n (by omega) (by omega) (by rw [hby]; omega) (by omega)
  simp only [Int.toNat_natCast] at hr
  have hmc : madeCells (Value.bool false).cells (n * i.size) = boolsA n (fun _ => false) := by
    rw [hsz, Nat.mul_one]
    apply Array.ext
    · simp [size_madeCells, boolsA]
    · intro j h1 h2
      simp [madeCells, Value.cells, Nat.mod_one, boolsA]
  rw [hmc] at hr
  exact hr
theorem posS_diff {S S' : Nat → Bool} {a : Nat} : ∀ {b : Nat}, a ≤ b → (∀ i, a ≤ i → i < b → S i = S' i) → posS S b + posS S' a = posS S' b + posS S a
  | 0, h, _ => by obtain rfl : a = 0 := by omega
                  exact Nat.add_comm _ _
  | b + 1, h, hs => by
    by_cases e : a = b + 1
    · subst e; exact Nat.add_comm _ _
    · have ih := posS_diff (S := S) (S' := S') (show a ≤ b by omega) (fun i h1 h2 => hs i h1 (by omega))
      have hb := hs b (by omega) (by omega)
      rw [posS, posS, hb]
      split <;> omega
theorem overF_congr {n k : Nat} {S S' : Nat → Bool} (hk : k < n) (a : Int) (h : ∀ i, k < i → S i = S' i) : overF n S k a = overF n S' k a := by
  obtain ⟨h1, _⟩ := farF_range hk a
  have := posS_diff (S := S) (S' := S') h1 (fun i hi _ => h i hi)
  have := posS_mono (S := S) h1
  have := posS_mono (S := S') h1
  unfold overF; omega
set_option maxRecDepth 100000 in
set_option maxHeartbeats 1000000 in
theorem over_any (A : Option Addr) (c B n : Nat) (S : Nat → Bool) (k : Nat) (a : Int) (w : World) (hr : Reads w B 1 A n (boolsA n S).toList) (hB : B ≤ w.heap.size) (hn : n ≤ 24) (hk : k < n) (ha : 0 ≤ a ∧ a ≤ 24) :
    Calls Try.prog 47 #[.slice A n c, .int .i64 k, .int .i64 a] w fun e w' => e = .returned (.int .i64 (overF n S k a)) ∧ w = w' := by
  obtain ⟨m, hm⟩ := Int.eq_ofNat_of_zero_le ha.1
  have hm' : a = (m : Int) := hm
  subst hm'
  obtain ⟨h1, h2⟩ := farF_range hk (m : Int)
  have hF : farF n k (m : Int) = min (k + 1 + m) n := by unfold farF; rw [Int.toNat_natCast]
  have hm24 : m ≤ 24 := by omega
  unfold overF
  obtain ⟨F, hFe⟩ : ∃ F, F = farF n k (m : Int) := ⟨_, rfl⟩
  rw [← hFe] at h1 h2 hF ⊢
  have HR := Lib.hid hr
  have HG := Lib.hid (fun j (hj : j < n) => boolsA_get S hj)
  have hmono := Lib.hid (fun j (hj : k + 1 ≤ j) => posS_mono (S := S) hj)
  have hle := Lib.hid (posS_le S)
  clear hr ha hFe hm
  rcases (show (k : Int) + 1 + m ≤ n ∧ (F : Int) = (k : Int) + 1 + m ∨ (n : Int) < (k : Int) + 1 + m ∧ (F : Int) = n by omega) with ⟨hc, hFi⟩ | ⟨hc, hFi⟩
  all_goals
    go_enter Try.func47, Try.ntmps47
    go_wp2_with fail
    go_loopw [7, 8] (fun s7 s8 wr => ∃ j v : Nat, k + 1 ≤ j ∧ j ≤ F ∧ s7 = .int .i64 v ∧ s8 = .int .i64 j ∧ v = posS S j - posS S (k + 1) ∧ wr = w) (fun _ i _ => F - (intOf i).toNat)
    case atStart => exact ⟨k + 1, 0, Nat.le_refl _, h1, rfl, by go_num, by omega, rfl⟩
    case round =>
      obtain ⟨j, v, hj1, hj2, rfl, rfl, hv, rfl⟩ := hrel
      have hvl : v ≤ 24 := by have := hle.out j; omega
      by_cases hjF : j < F
      · have hji : (j : Int) < (F : Int) := by omega
        have hjn : j < n := by omega
        obtain ⟨b, off, u, rfl, hb, hu, hcell⟩ := HR.out.one hjn
        rw [Array.getElem?_toList, HG.out j hjn] at hu
        injection hu with hu
        subst hu
        rw [hFi] at hji
        have hpm := hmono.out j hj1
        have hjn' : (j : Int) < (n : Int) := by omega
        cases hs : S j with
        | true =>
          rw [hs] at hcell
          have hnx := posS_yes hs
          clear hs
          go_wp2_with fail
          go_roundw
          case rel => exact ⟨j + 1, v + 1, by omega, by omega, by go_num, by go_num, by omega, trivial⟩
          case measure => simp [intOf]; omega
        | false =>
          rw [hs] at hcell
          have hnx := posS_no hs
          clear hs
          go_wp2_with fail
          go_roundw
          case rel => exact ⟨j + 1, v, by omega, by omega, rfl, by go_num, by omega, trivial⟩
          case measure => simp [intOf]; omega
      · obtain rfl : F = j := by omega
        have hji : ¬ (F : Int) < (F : Int) := by omega
        rw [hFi] at hji
        go_wp2_with fail
        go_ret
        exact ⟨rfl, rfl⟩
/-- What lives leaves. -/
def LivesOut (n : Nat) (p : Nat → Int × Int) (D : Nat → Int) (w : World) (e : Ending) (w' : World) : Prop :=
  ∃ g S, e = .returned (.slice (some ⟨g, 0, none⟩) n n) ∧ w.heap.size ≤ g ∧ Blk w' g 4 (boolsA n S) ∧ StayOk n p D S ∧ Fr w.heap.size [] w w'
set_option maxRecDepth 100000 in
set_option maxHeartbeats 2000000 in
theorem lives_any (A : Option Addr) (c gd B : Nat) (l : List (Int × Int)) (D : Nat → Int) (w : World) (hr : Reads w B 2 A l.length (cellsI l)) (hB : B ≤ w.heap.size) (hd : Blk w gd 3 (intsA l.length D)) (hn : l.length ≤ 24) (hri : ∀ k, k < l.length → rightB (pF l k) = true) :
    Calls Try.prog 46 #[.slice A l.length c, .slice (some ⟨gd, 0, none⟩) l.length l.length] w (LivesOut l.length (pF l) D w) := by
  have HR := Lib.hid hr
  have HD := Lib.hid hd
  have HRI := Lib.hid hri
  have hgd := hd.lt
  obtain ⟨n, hnl⟩ : ∃ n, n = l.length := ⟨_, rfl⟩
  have HN := Lib.hid hnl
  rw [← hnl] at hn HD HRI ⊢
  have hmk := make_boolsA n (by omega)
  clear hr hd hri hnl
  go_enter Try.func46, Try.ntmps46
  go_wp2_with fail
  have BS := Lib.hid (Blk.new w 4 (boolsA n (fun _ => false)))
  have F1 := Lib.hid ((Fr.refl w.heap.size [] w).alloc (Nat.le_refl _) (.cells (boolsA n (fun _ => false)) 4))
  clear hmk
  generalize w.alloc (.cells (boolsA n (fun _ => false)) 4) = w1 at *
  go_loopw [13] (fun i wr => ∃ (k : Nat) (S : Nat → Bool), k ≤ n ∧ i = .int .i64 k ∧ RowKit.Hid (Blk wr w.heap.size 4 (boolsA n S)) ∧ RowKit.Hid (∀ j, j < n → n ≤ j + k → (S j = true ↔ (D j ≠ -1 ∧ ((pF l j).1 ≠ 16 ∨ 0 < overF n S j (pF l j).2)))) ∧ RowKit.Hid (Fr w.heap.size [] w wr)) (fun i _ => n - (intOf i).toNat)
  case atStart => exact ⟨0, _, Nat.zero_le _, rfl, BS, Lib.hid (fun j h1 h2 => by omega), F1⟩
  case round =>
    clear BS F1
    obtain ⟨k, S, hk, rfl, BS, HS, F1⟩ := hrel
    by_cases hkn : k < n
    · have hki : (k : Int) < (n : Int) := by omega
      obtain ⟨j, hj⟩ : ∃ j, j = n - 1 - k := ⟨_, rfl⟩
      have hjn : j < n := by omega
      have hw1 : IntKind.i64.wrap ((n : Int) - 1) = (n : Int) - 1 := by rw [IntKind.wrap_i64]; omega
      have hw2 : IntKind.i64.wrap ((n : Int) - 1 - (k : Int)) = (j : Int) := by rw [IntKind.wrap_i64]; omega
      have cd := ((HD.out.fr F1.out hgd (by simp)).cell j).trans (intsA_get D hjn)
      have zb := BS.out.frozen j
      have xb := (BS.out.cell j).trans (boolsA_get S hjn)
      have hl : l[j]? = some (pF l j) := by rw [pF, List.getD_eq_getElem?_getD, List.getElem?_eq_getElem (by rw [← HN.out]; exact hjn)]; rfl
      obtain ⟨bb, off, rfl, hbb, p1, p2⟩ := reads_ins (HR.out.fr F1.out hB (by simp)) hl
      obtain ⟨r1, r2, r3, r4, r5, r6⟩ := right_range (HRI.out j hjn)
      have fin : ∀ (v : Bool), (v = true ↔ (D j ≠ -1 ∧ ((pF l j).1 ≠ 16 ∨ 0 < overF n S j (pF l j).2))) →
          (∃ (k' : Nat) (S' : Nat → Bool), k' ≤ n ∧ Value.int .i64 ((k : Int) + 1) = .int .i64 k' ∧ RowKit.Hid (Blk (wr.setCell ⟨w.heap.size, j, none⟩ (.bool v)) w.heap.size 4 (boolsA n S')) ∧ RowKit.Hid (∀ j, j < n → n ≤ j + k' → (S' j = true ↔ (D j ≠ -1 ∧ ((pF l j).1 ≠ 16 ∨ 0 < overF n S' j (pF l j).2)))) ∧ RowKit.Hid (Fr w.heap.size [] w (wr.setCell ⟨w.heap.size, j, none⟩ (.bool v)))) := by
        intro v hv
        refine ⟨k + 1, updC S j v, by omega, by push_cast; rfl, Lib.hid ?_, Lib.hid ?_, Lib.hid (F1.out.setCell (p := ⟨w.heap.size, j, none⟩) (.inl (Nat.le_refl _)) _)⟩
        · rw [← boolsA_set]; exact BS.out.set_ j _
        · intro i hi hik
          have hcg : overF n (updC S j v) i (pF l i).2 = overF n S i (pF l i).2 := overF_congr hi _ (fun x hx => by unfold updC; rw [if_neg (by omega)])
          rw [hcg]
          by_cases e : i = j
          · subst e
            unfold updC; rw [if_pos rfl]; exact hv
          · have := HS.out i hi (by omega)
            unfold updC; rw [if_neg e]; exact this
      have FIN := Lib.hid fin
      have HJ := Lib.hid hj
      clear fin hl hj
      by_cases hdj : D j = -1
      · have hb : (D j != -1) = false := by simp [hdj]
        have hv : (false = true ↔ (D j ≠ -1 ∧ ((pF l j).1 ≠ 16 ∨ 0 < overF n S j (pF l j).2))) := ⟨fun h => (nomatch h), fun h => absurd hdj h.1⟩
        have HV := Lib.hid hv
        clear hv hdj
        go_wp2_with fail
        go_roundw
        case rel => exact FIN.out false HV.out
        case measure => simp [intOf]; omega
      · have hb : (D j != -1) = true := by simp [hdj]
        by_cases h16 : (pF l j).1 = 16
        · have hs := boolsA_size n S
          have ho := over_any (some ⟨w.heap.size, 0, none⟩) n (w.heap.size + 1) n S j (pF l j).2 wr (Reads.of_blk BS.out (by rw [hs, Nat.mul_one])) BS.out.lt hn hjn (by have := r5 (.inr h16); omega)
          have HV := Lib.hid (fun v (hv : v = decide (0 < (overF n S j (pF l j).2 : Int))) => (by rw [hv, decide_eq_true_eq]; exact ⟨fun h => ⟨hdj, .inr (by omega)⟩, fun h => by rcases h.2 with h | h; exact absurd h16 h; omega⟩ : (v = true ↔ (D j ≠ -1 ∧ ((pF l j).1 ≠ 16 ∨ 0 < overF n S j (pF l j).2)))))
          have HO := Lib.hid ho
          have hb2 : ((pF l j).1 != 16) = false := by simp [h16]
          clear ho hs hdj h16
          go_wp2_with fail
          refine HO.out.mono ?_
          rintro e w' ⟨rfl, rfl⟩
          go_wp2_with fail
          go_roundw
          case rel => exact FIN.out _ (HV.out _ (by rw [decide_eq_decide]; omega))
          case measure => simp [intOf]; omega
        · have hv : (true = true ↔ (D j ≠ -1 ∧ ((pF l j).1 ≠ 16 ∨ 0 < overF n S j (pF l j).2))) := ⟨fun _ => ⟨hdj, .inl h16⟩, fun _ => rfl⟩
          have HV := Lib.hid hv
          have hb2 : ((pF l j).1 != 16) = true := by simp [h16]
          clear hv hdj h16
          go_wp2_with fail
          go_roundw
          case rel => exact FIN.out true HV.out
          case measure => simp [intOf]; omega
    · obtain rfl : n = k := by omega
      go_wp2_with fail
      go_ret
      exact ⟨_, S, rfl, Nat.le_refl _, BS.out, fun j hj => HS.out j hj (by omega), F1.out⟩
end Go.Proofs.Ytndjgjnnoknblaa
