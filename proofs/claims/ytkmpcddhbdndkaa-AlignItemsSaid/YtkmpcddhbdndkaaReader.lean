/- The contracts of package octet's reader. -/
import Derived.Test.YtkmpcddhbdndkaaOctet
import Derived.Lib.AppendStr
namespace Go.Proofs.Ytkmpcddhbdndkaa
open Go.RowKit Go.Fb

/-- A reader at block g has this text left. -/
abbrev Rd (w : World) (g : Nat) (s : ByteArray) : Prop := Blk w g 188 #[.string s]

theorem new_any (s : ByteArray) (w : World) : Calls Try.prog 81 #[.string s] w fun e w' => e = .returned (.pointer (some ⟨w.heap.size, 0, none⟩)) ∧ w' = w.alloc (.cells #[.string s] 188) := by
  go_enter Try.func81, Try.ntmps81
  go_wp2_with fail
  go_ret
  exact ⟨rfl, rfl⟩

theorem peek_nil (w : World) : Calls Try.prog 133 #[.pointer none] w fun e w' => e = .returned (.tuple #[.int .i64 0, .int .i64 1]) ∧ w = w' := by
  go_enter Try.func133, Try.ntmps133
  go_wp2_with fail
  go_ret2
  exact ⟨rfl, rfl⟩

theorem peek_short (g : Nat) (s : ByteArray) (w : World) (h : Rd w g s) (hs : s.size < 4) : Calls Try.prog 133 #[.pointer (some ⟨g, 0, none⟩)] w fun e w' => e = .returned (.tuple #[.int .i64 0, .int .i64 3]) ∧ w = w' := by
  have hc := h.cell 0
  clear h
  go_enter Try.func133, Try.ntmps133
  go_wp2_with fail
  go_ret2
  exact ⟨rfl, rfl⟩

/-- The number that four bytes hold. -/
def fourU (l : List Int) (k : Nat) : Int := (l.take k).foldl (fun u c => u * 256 + c) 0
def fourI (u : Int) : Int := if u < 2147483648 then u else u - 4294967296
theorem fourU_bound {l : List Int} (h : ∀ x ∈ l, 0 ≤ x ∧ x < 256) (k : Nat) : 0 ≤ fourU l k ∧ (k ≤ 3 → fourU l k < 16777216) ∧ (k ≤ 4 → fourU l k < 4294967296) := by
  match k with
  | 0 => simp [fourU]
  | 1 => match l with
    | [] => simp [fourU]
    | a :: _ => have := h a (by simp); simp [fourU]; omega
  | 2 => match l with
    | [] => simp [fourU]
    | [a] => have := h a (by simp); simp [fourU]; omega
    | a :: b :: _ => have := h a (by simp); have := h b (by simp); simp [fourU]; omega
  | 3 => match l with
    | [] => simp [fourU]
    | [a] => have := h a (by simp); simp [fourU]; omega
    | [a, b] => have := h a (by simp); have := h b (by simp); simp [fourU]; omega
    | a :: b :: c :: _ => have := h a (by simp); have := h b (by simp); have := h c (by simp); simp [fourU]; omega
  | 4 => match l with
    | [] => simp [fourU]
    | [a] => have := h a (by simp); simp [fourU]; omega
    | [a, b] => have := h a (by simp); have := h b (by simp); simp [fourU]; omega
    | [a, b, c] => have := h a (by simp); have := h b (by simp); have := h c (by simp); simp [fourU]; omega
    | a :: b :: c :: d :: _ => have := h a (by simp); have := h b (by simp); have := h c (by simp); have := h d (by simp); simp [fourU]; omega
  | n + 5 =>
    refine ⟨?_, fun h => by omega, fun h => by omega⟩
    have hm : ∀ x ∈ l.take (n + 5), 0 ≤ x ∧ x < 256 := fun x hx => h x (List.mem_of_mem_take hx)
    show 0 ≤ List.foldl _ 0 _
    generalize l.take (n + 5) = m at hm
    have key : ∀ (u : Int), 0 ≤ u → 0 ≤ m.foldl (fun u c => u * 256 + c) u := by
      clear h
      induction m with
      | nil => intro u hu; exact hu
      | cons a m ih =>
        intro u hu
        have := hm a (by simp)
        exact ih (fun x hx => hm x (by simp [hx])) _ (show 0 ≤ u * 256 + a by omega)
    exact key 0 (by omega)
theorem fourU_succ (l : List Int) (k : Nat) {x : Int} (h : l[k]? = some x) : fourU l (k + 1) = fourU l k * 256 + x := by
  unfold fourU
  rw [List.take_add_one, h]
  simp
/-- The number at a text's head. -/
def numOf (s : ByteArray) : Int := fourI (fourU (bl s) 4)

theorem or_u32 {U x : Int} (h0 : 0 ≤ U) (h1 : U < 16777216) (h2 : 0 ≤ x) (h3 : x < 256) : bits .or .u32 (U * 256) x = U * 256 + x := by
  rw [Go.u32_or _ _ (by omega) (by omega) h2 (by omega)]
  have h : (U * 256).toNat = 2 ^ 8 * U.toNat := by omega
  rw [h, ← Nat.two_pow_add_eq_or_of_lt (by omega)]
  omega

set_option maxRecDepth 100000 in
theorem peek_any (g : Nat) (s : ByteArray) (w : World) (h : Rd w g s) (hs : ¬ s.size < 4) (hm : s.size ≤ maxLen) : Calls Try.prog 133 #[.pointer (some ⟨g, 0, none⟩)] w fun e w' => e = .returned (.tuple #[.int .i64 (numOf s), .int .i64 0]) ∧ Fr w.heap.size [] w w' := by
  have hc := h.cell 0
  unfold maxLen at hm
  clear h
  obtain ⟨c, w1, hconv, hrd, hfr, hz, hcap⟩ := conv_bytes (P := Try.prog) (w := w) (s.extract 0 4) Try.underlying9 Try.underlying134 Try.underlying5
  have e4 : (s.extract 0 4).size = 4 := by rw [ByteArray.size_extract]; omega
  rw [e4] at hconv hrd
  rw [bl_extract, List.drop_zero] at hrd
  have Hfr := Lib.hid hfr
  have Hrd := Lib.hid hrd
  have Hz := Lib.hid hz
  clear hfr hrd hz e4
  go_enter Try.func133, Try.ntmps133
  go_wp2_with fail
  go_loop [4, 24] (fun u i => ∃ k : Nat, k ≤ 4 ∧ i = .int .i64 k ∧ u = .int .u32 (fourU (bl s) k)) (fun _ i => 4 - (intOf i).toNat)
  case atStart => exact ⟨0, by omega, rfl, rfl⟩
  case round =>
    obtain ⟨k, hk, rfl, rfl⟩ := hrel
    by_cases hlt : k < 4
    · obtain ⟨b, off, u, e0, hb, hu, hcell⟩ := Hrd.out.one hlt
      obtain ⟨x, hx, rfl⟩ : ∃ x, (bl s)[k]? = some x ∧ Value.int .u8 x = u := by
        rw [List.getElem?_map, List.getElem?_take, if_pos hlt] at hu
        simpa using hu
      injection e0 with e0
      injection e0 with e1 e2
      subst e1
      subst e2
      rw [Nat.zero_add] at hcell
      have hi : (k : Int) < 4 := by omega
      obtain ⟨h0, h1, h2⟩ := fourU_bound (bl_range s) k
      have h1' := h1 (by omega)
      obtain ⟨hx1, hx2⟩ := bl_range s x (List.mem_of_getElem? hx)
      have hn := fourU_succ (bl s) k hx
      have HN := Lib.hid hn
      have HX := Lib.hid hx
      clear hn hx hu h1 h2
      generalize hU : fourU (bl s) k = U at *
      have HU := Lib.hid hU
      clear hU
      go_wp2_with fail
      go_round
      case rel => exact ⟨k + 1, by omega, by go_num, by rw [or_u32 h0 h1' hx1 hx2, HN.out]⟩
      case measure => simp [intOf]; omega
    · obtain rfl : k = 4 := by omega
      obtain ⟨h0, h1, h2⟩ := fourU_bound (bl_range s) 4
      have h2' := h2 (by omega)
      clear h1 h2
      have hN : numOf s = fourI (fourU (bl s) 4) := rfl
      generalize fourU (bl s) 4 = U at *
      have HN := Lib.hid hN
      clear hN
      by_cases hU : U < 2147483648
      · go_wp2_with fail
        go_ret2
        have hv : numOf s = U := by rw [HN.out, fourI, if_pos hU]
        refine ⟨?_, Hfr.out⟩
        rw [hv]; rfl
      · go_wp2_with fail
        go_ret2
        have hv : numOf s = wrap64 (wrap32 U) := by rw [HN.out, fourI, if_neg (by omega)]; unfold wrap64 wrap32; omega
        refine ⟨?_, Hfr.out⟩
        rw [hv]; rfl

theorem numOf_bounds (s : ByteArray) : -2147483648 ≤ numOf s ∧ numOf s ≤ 2147483647 := by
  obtain ⟨h0, _, h2⟩ := fourU_bound (bl_range s) 4
  have h3 := h2 (by omega)
  unfold numOf fourI
  split <;> omega

theorem within_nil (a b : Int) (w : World) : Calls Try.prog 118 #[.pointer none, .int .i64 a, .int .i64 b] w fun e w' => e = .returned (.tuple #[.int .i64 0, .int .i64 1]) ∧ w = w' := by
  go_enter Try.func118, Try.ntmps118
  go_wp2_with (go_at_call 133; refine (peek_nil _).mono ?_; rintro e w' ⟨rfl, rfl⟩)
  go_ret2
  exact ⟨rfl, rfl⟩

/-- What 'Within' answers of a text: the number, the error, what is left. -/
def withinOf (s : ByteArray) (a b : Int) : Int × Int × ByteArray :=
  if s.size < 4 then (0, 3, s) else if numOf s < a ∨ b < numOf s then (0, 2, s) else (numOf s, 0, s.extract 4 s.size)

set_option maxRecDepth 100000 in
theorem within_any (g : Nat) (s : ByteArray) (a b : Int) (w : World) (h : Rd w g s) (hm : s.size ≤ maxLen) :
    Calls Try.prog 118 #[.pointer (some ⟨g, 0, none⟩), .int .i64 a, .int .i64 b] w fun e w' =>
      e = .returned (.tuple #[.int .i64 (withinOf s a b).1, .int .i64 (withinOf s a b).2.1]) ∧ Rd w' g (withinOf s a b).2.2 ∧ Fr w.heap.size [g] w w' := by
  by_cases hs : s.size < 4
  · have hv : withinOf s a b = (0, 3, s) := if_pos hs
    rw [hv]
    have Hv := Lib.hid hv
    clear hv
    go_enter Try.func118, Try.ntmps118
    go_wp2_with (go_at_call 133; refine (peek_short _ _ _ h hs).mono ?_; rintro e w' ⟨rfl, rfl⟩)
    go_ret2
    exact ⟨rfl, h, Fr.refl _ _ _⟩
  have hmm := hm
  unfold maxLen at hm
  obtain ⟨hb1, hb2⟩ := numOf_bounds s
  by_cases h1 : numOf s < a
  · have hv : withinOf s a b = (0, 2, s) := by rw [withinOf, if_neg hs, if_pos (.inl h1)]
    rw [hv]
    have Hv := Lib.hid hv
    clear hv
    go_enter Try.func118, Try.ntmps118
    go_wp2_with (go_at_call 133; refine (peek_any _ _ _ h hs hmm).mono ?_; rintro e w' ⟨rfl, hf⟩)
    go_ret2
    exact ⟨rfl, h.fr hf h.lt (by simp), hf.mono (Nat.le_refl _) (by simp)⟩
  by_cases h2 : b < numOf s
  · have hv : withinOf s a b = (0, 2, s) := by rw [withinOf, if_neg hs, if_pos (.inr h2)]
    rw [hv]
    have Hv := Lib.hid hv
    clear hv
    go_enter Try.func118, Try.ntmps118
    go_wp2_with (go_at_call 133; refine (peek_any _ _ _ h hs hmm).mono ?_; rintro e w' ⟨rfl, hf⟩)
    go_ret2
    exact ⟨rfl, h.fr hf h.lt (by simp), hf.mono (Nat.le_refl _) (by simp)⟩
  · have hv : withinOf s a b = (numOf s, 0, s.extract 4 s.size) := by rw [withinOf, if_neg hs, if_neg (by omega)]
    rw [hv]
    have Hv := Lib.hid hv
    clear hv
    go_enter Try.func118, Try.ntmps118
    go_wp2_with (go_at_call 133; refine (peek_any _ _ _ h hs hmm).mono ?_; rintro e w' ⟨rfl, hf⟩; have hr1 := h.fr hf h.lt (by simp); have hc := hr1.cell 0; have hz := hr1.frozen 0)
    go_ret2
    exact ⟨rfl, hr1.set_ 0 _, (hf.mono (Nat.le_refl _) (by simp)).setCell (.inr (by simp)) _⟩

theorem rnum_nil (w : World) : Calls Try.prog 82 #[.pointer none] w fun e w' => e = .returned (.tuple #[.int .i64 0, .int .i64 1]) ∧ w = w' := by
  go_enter Try.func82, Try.ntmps82
  go_wp2_with (go_at_call 118; refine (within_nil _ _ _).mono ?_; rintro e w' ⟨rfl, rfl⟩)
  go_ret2
  exact ⟨rfl, rfl⟩
/-- What 'Num' answers of a text. -/
def rnumOf (s : ByteArray) : Int × Int × ByteArray := if s.size < 4 then (0, 3, s) else (numOf s, 0, s.extract 4 s.size)
theorem rnumOf_eq (s : ByteArray) : withinOf s (-2147483648) 2147483647 = rnumOf s := by
  obtain ⟨h1, h2⟩ := numOf_bounds s
  unfold withinOf rnumOf
  by_cases hs : s.size < 4
  · rw [if_pos hs, if_pos hs]
  · rw [if_neg hs, if_neg hs, if_neg (by omega)]
theorem rnum_any (g : Nat) (s : ByteArray) (w : World) (h : Rd w g s) (hm : s.size ≤ maxLen) :
    Calls Try.prog 82 #[.pointer (some ⟨g, 0, none⟩)] w fun e w' =>
      e = .returned (.tuple #[.int .i64 (rnumOf s).1, .int .i64 (rnumOf s).2.1]) ∧ Rd w' g (rnumOf s).2.2 ∧ Fr w.heap.size [g] w w' := by
  have hw := within_any g s (-2147483648) 2147483647 w h hm
  rw [rnumOf_eq] at hw
  generalize rnumOf s = r at *
  go_enter Try.func82, Try.ntmps82
  go_wp2_with (go_at_call 118; refine hw.mono ?_; rintro e w' ⟨rfl, hr, hf⟩)
  go_ret2
  exact ⟨rfl, hr, hf⟩

theorem isEmpty_of_size {s : ByteArray} : s.toList.isEmpty = decide (s.size = 0) := by
  rw [ByteArray.toList_eq]
  have : s.data.toList.length = s.size := by rw [Array.length_toList]; rfl
  cases h : s.data.toList with
  | nil => rw [h] at this; simp at this; simp [← this]
  | cons a l =>
    rw [h, List.length_cons] at this
    have h0 : ¬ s.size = 0 := by omega
    simp [h0]
/-- What 'Text' answers of a text. -/
def rtextOf (s : ByteArray) (m : Int) : ByteArray × Int × ByteArray :=
  if s.size < 4 then (ByteArray.empty, 3, s) else if numOf s < 0 ∨ m < numOf s then (ByteArray.empty, 2, s) else if (s.size : Int) - 4 < numOf s then (ByteArray.empty, 3, s)
  else (s.extract 4 (4 + (numOf s).toNat), 0, s.extract (4 + (numOf s).toNat) s.size)
end Go.Proofs.Ytkmpcddhbdndkaa
