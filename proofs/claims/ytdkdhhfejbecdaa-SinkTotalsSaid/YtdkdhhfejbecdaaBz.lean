/- The contracts of forebayref12.Only and forebayref06.Same (on two equal lists). -/
import Derived.Test.YtdkdhhfejbecdaaBy
namespace Go.Proofs.Ytdkdhhfejbecdaa
open Go.RowKit Go.Fb
theorem key_iff (x : Nat → Int) (s f k : Int) : ((s, f, k) = keyL x) ↔ (x 0 = s ∧ x 1 = f ∧ x 2 = k) := by
  unfold keyL
  simp only [Prod.mk.injEq]
  exact ⟨fun ⟨a, b, c⟩ => ⟨a.symm, b.symm, c.symm⟩, fun ⟨a, b, c⟩ => ⟨a.symm, b.symm, c.symm⟩⟩
set_option maxRecDepth 100000 in
set_option maxHeartbeats 1000000 in
theorem ronly_any (A : Option Addr) (c B : Nat) (l : List (Nat → Int)) (s f k : Int) (w : World) (hr : Reads w B 5 A l.length (cellsLn l)) (hB : B ≤ w.heap.size) (hn : l.length ≤ 1000000) :
    Calls Try.prog 16 #[.slice A l.length c, .int .i64 s, .int .i64 f, .int .i64 k] w (OnlyOut l (s, f, k) w) := by
  have HR := Lib.hid hr
  obtain ⟨n, hnl⟩ : ∃ n, n = l.length := ⟨_, rfl⟩
  have HN := Lib.hid hnl
  unfold OnlyOut
  rw [← hnl] at hn ⊢
  clear hr hnl
  go_enter Try.func16, Try.ntmps16
  go_wp2_with fail
  have O0 := Lib.hid (vowns_empty w)
  have F0 := Lib.hid ((Fr.refl w.heap.size [] w).alloc (Nat.le_refl _) (.cells #[] 32))
  generalize w.alloc (.cells #[] 32) = w0 at *
  go_loopg [9, 10] n (fun g s9 s10 wr => ∃ (j m : Nat) (A2 : Option Addr) (c2 : Nat), j ≤ n ∧ g = n - j ∧ s10 = .int .i64 j ∧ s9 = .slice A2 m c2 ∧ m ≤ j ∧ RowKit.Hid (m = (onlyV (l.take j) (s, f, k)).length) ∧ RowKit.Hid (wr.ownsRow w.heap.size 32 2 (.slice A2 m c2) m (cellsV (onlyV (l.take j) (s, f, k)))) ∧ RowKit.Hid (Fr w.heap.size [] w wr))
  case atStart => exact ⟨0, 0, some ⟨w.heap.size, 0, none⟩, 0, Nat.zero_le _, rfl, rfl, rfl, Nat.le_refl _, Lib.hid rfl, O0, F0⟩
  case round =>
    clear O0 F0
    obtain ⟨j, m, A2, c2, hj, rfl, rfl, rfl, hmj, HM, O, F⟩ := hrel
    by_cases hjn : j < n
    · have hji : (j : Int) < (n : Int) := by omega
      obtain ⟨x, hx⟩ : ∃ x, l[j]? = some x := ⟨_, List.getElem?_eq_getElem (by rw [← HN.out]; exact hjn)⟩
      obtain ⟨b, off, rfl, hb, hc⟩ := reads_ln (HR.out.fr F.out hB (by simp)) hx
      have p0 := hc 0 (by omega)
      have p1 := hc 1 (by omega)
      have p2 := hc 2 (by omega)
      have p3 := hc 3 (by omega)
      have p4 := hc 4 (by omega)
      simp only [Nat.add_zero, ← Nat.add_assoc] at p0 p1 p2 p3 p4
      have HTK := Lib.hid (show onlyV (l.take (j + 1)) (s, f, k) = if (s, f, k) = keyL x then onlyV (l.take j) (s, f, k) ++ [(x 3, x 4)] else onlyV (l.take j) (s, f, k) by rw [List.take_add_one, hx]; exact onlyV_snoc _ _ _)
      have HNO := Lib.hid (fun (h : ¬ (x 0 = s ∧ x 1 = f ∧ x 2 = k)) => (by rw [HTK.out, if_neg (fun e => h ((key_iff x s f k).1 e))] : onlyV (l.take (j + 1)) (s, f, k) = onlyV (l.take j) (s, f, k)))
      have hrest : ∀ w', w' = wr → (onlyV (l.take (j + 1)) (s, f, k) = onlyV (l.take j) (s, f, k)) → ∃ (j' m' : Nat) (A2' : Option Addr) (c2' : Nat), j' ≤ n ∧ n - (j + 1) = n - j' ∧ Value.int .i64 ((j : Int) + 1) = .int .i64 j' ∧ Value.slice A2 m c2 = .slice A2' m' c2' ∧ m' ≤ j' ∧ RowKit.Hid (m' = (onlyV (l.take j') (s, f, k)).length) ∧ RowKit.Hid (w'.ownsRow w.heap.size 32 2 (.slice A2' m' c2') m' (cellsV (onlyV (l.take j') (s, f, k)))) ∧ RowKit.Hid (Fr w.heap.size [] w w') := by
        rintro w' rfl h
        refine ⟨j + 1, m, A2, c2, by omega, rfl, by push_cast; rfl, rfl, by omega, ?_, ?_, F⟩
        · rw [h]; exact HM
        · rw [h]; exact O
      have HREST := Lib.hid hrest
      clear hrest hc hx
      by_cases h0 : x 0 = s
      case neg =>
        have hb0 : (x 0 == s) = false := by simpa using h0
        have HE := Lib.hid (HNO.out (fun h => h0 h.1))
        clear h0
        go_wp2_with fail
        go_roundg (n - (j + 1))
        case measure => omega
        case rel => exact HREST.out _ rfl HE.out
      by_cases h1 : x 1 = f
      case neg =>
        have hb0 : (x 0 == s) = true := by simpa using h0
        have hb1 : (x 1 == f) = false := by simpa using h1
        have HE := Lib.hid (HNO.out (fun h => h1 h.2.1))
        clear h0 h1
        go_wp2_with fail
        go_roundg (n - (j + 1))
        case measure => omega
        case rel => exact HREST.out _ rfl HE.out
      by_cases h2 : x 2 = k
      case neg =>
        have hb0 : (x 0 == s) = true := by simpa using h0
        have hb1 : (x 1 == f) = true := by simpa using h1
        have hb2 : (x 2 == k) = false := by simpa using h2
        have HE := Lib.hid (HNO.out (fun h => h2 h.2.2))
        clear h0 h1 h2
        go_wp2_with fail
        go_roundg (n - (j + 1))
        case measure => omega
        case rel => exact HREST.out _ rfl HE.out
      · have hb0 : (x 0 == s) = true := by simpa using h0
        have hb1 : (x 1 == f) = true := by simpa using h1
        have hb2 : (x 2 == k) = true := by simpa using h2
        have HE := Lib.hid (show onlyV (l.take (j + 1)) (s, f, k) = onlyV (l.take j) (s, f, k) ++ [(x 3, x 4)] by rw [HTK.out, if_pos ((key_iff x s f k).2 ⟨h0, h1, h2⟩)])
        have hown := O.out
        have hsz := F.out.size
        clear h0 h1 h2
        go_wp2_with (at_builtin; refine wpList_app_lit _ rfl (.tmp 43) (.tmp 49) valTy rfl w.heap.size (.slice A2 m c2) m _ rfl hown 1 1 _ rfl rfl (by simp [Value.oneCell']) (by omega) (by omega) hsz ?_; intro A3 c3 w3 hown3 hg3 hat3)
        have F4 := Lib.hid (F.out.trans (Fr.of_app hg3 hown hsz))
        have HO3 := Lib.hid hown3
        clear hown3 hg3 hat3 hown
        go_roundg (n - (j + 1))
        case measure => omega
        case rel => exact ⟨j + 1, m + 1, A3, c3, by omega, rfl, by go_num, rfl, by omega, Lib.hid (by rw [HE.out, List.length_append, ← HM.out]; rfl), by rw [HE.out, cellsV_app]; exact HO3, F4⟩
    · obtain rfl : n = j := by omega
      go_wp2_with fail
      go_ret
      have h := O.out
      have hm := HM.out
      rw [List.take_of_length_le (by rw [HN.out]; exact Nat.le_refl _)] at h hm
      rw [← hm]
      exact ⟨A2, c2, rfl, h, F.out⟩
set_option maxRecDepth 100000 in
theorem val_one_neq (a b : Int) (w : World) : (binOp .neq 32 (.agg #[.int .i64 a, .int .i64 b]) (.agg #[.int .i64 a, .int .i64 b])).run Try.prog w = .ok (.bool false) w := by
  have h : (Op.equalIn 10000 32 (.agg #[.int .i64 a, .int .i64 b]) (.agg #[.int .i64 a, .int .i64 b])).run Try.prog w = .ok true w := by
    rw [run_equalIn_struct w 9999 32 _ _ (by kernel_rfl) (by kernel_rfl)]
    simp [Program.fieldsOf, Try.underlying32, Op.eqFields, part, isAgg, run_underlying Try.underlying3, run_equalIn_int w 9998 3 .i64 .i64 _ _ Try.underlying3]
  simp [binOp, Op.equal, Op.maxDepth, h]
end Go.Proofs.Ytdkdhhfejbecdaa
