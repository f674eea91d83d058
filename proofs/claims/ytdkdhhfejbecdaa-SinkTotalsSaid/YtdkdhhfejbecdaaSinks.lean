/- The contracts of (*Book).Sinks and forebayref08.Ints. -/
import Derived.Test.YtdkdhhfejbecdaaSortI
import Derived.Test.YtdkdhhfejbecdaaBookC
namespace Go.Proofs.Ytdkdhhfejbecdaa
open Go.RowKit Go.Fb
theorem sintTy : SliceTy Try.prog 51 3 1 8 := SliceTy.mk' (z := .int .i64 0) Try.underlying51 (by kernel_rfl) rfl (by omega)
/-- The sinks of lines, each once, rising. -/
def sinksL (l : List (Nat → Int)) : List Int := Lib.compact (srt (l.map fun x => x 0))
theorem sinksL_mem {l : List (Nat → Int)} (x : Int) : x ∈ sinksL l ↔ ∃ y ∈ l, y 0 = x := by
  unfold sinksL
  rw [compact_mem, (srt_perm _).mem_iff, List.mem_map]
theorem sinksL_rises (l : List (Nat → Int)) : (sinksL l).Pairwise (· < ·) := compact_rises (srt_sorted _)
section
variable {base gb gm : Nat} {l : List (Nat → Int)} {E : List (Int × Nat)} {ep : Int} {V : Value}
def SinksOut (l : List (Nat → Int)) (w : World) (e : Ending) (w' : World) : Prop :=
  ∃ A c, e = .returned (.slice A (sinksL l).length c) ∧ Reads w' w'.heap.size 1 A (sinksL l).length ((sinksL l).map (Value.int .i64)) ∧ Fr w.heap.size [] w w'
set_option maxRecDepth 100000 in
set_option maxHeartbeats 2000000 in
theorem sinks_any (w : World) (h : Bk base gb gm l E ep V w) (hn : l.length ≤ 1000000) : Calls Try.prog 34 #[.pointer (some ⟨gb, 0, none⟩)] w (SinksOut l w) := by
  obtain ⟨n, hnl⟩ : ∃ n, n = l.length := ⟨_, rfl⟩
  have HLN := blines_any w h hn
  rw [← hnl] at HLN hn
  have HLN := Lib.hid HLN
  have HN := Lib.hid hnl
  clear h hnl
  go_enter Try.func34, Try.ntmps34
  go_wp2_with fail
  refine HLN.out.mono ?_
  rintro e w1 ⟨A1, c1, rfl, hown, f1⟩
  have RL := Lib.hid (Reads.of_own hown)
  have F1 := Lib.hid f1
  have f1s := f1.size
  clear hown f1 HLN
  go_wp2_with fail
  go_loopg [3, 5, 9] n (fun g s3 s5 s9 wr => ∃ (k : Nat) (A : Option Addr) (c : Nat), k ≤ n ∧ g = n - k ∧ s9 = .int .i64 k ∧ s3 = .slice A k c ∧ (s5 = undef ∨ ∃ a, s5 = .pointer a) ∧ RowKit.Hid (wr.ownsRow w1.heap.size 3 1 (.slice A k c) k (((l.take k).map fun x => x 0).map (Value.int .i64))) ∧ RowKit.Hid (Fr w1.heap.size [] w1 wr))
  case atStart => exact ⟨0, none, 0, Nat.zero_le _, rfl, rfl, rfl, .inl rfl, Lib.hid (World.ownsRow_nil _ _ _ _), Lib.hid (Fr.refl _ _ _)⟩
  case round =>
    obtain ⟨k, A, c, hk, rfl, rfl, rfl, hs5, HO, FR⟩ := hrel
    by_cases hkn : k < n
    · have hki : (k : Int) < (n : Int) := by omega
      obtain ⟨x, hx⟩ : ∃ x, l[k]? = some x := ⟨_, List.getElem?_eq_getElem (by rw [← HN.out]; exact hkn)⟩
      have hrl := RL.out.fr FR.out (Nat.le_refl _) (by simp)
      rw [HN.out] at hrl
      obtain ⟨b2, off2, hA2, hb2, hcx⟩ := reads_ln hrl hx
      subst hA2
      have p0 := hcx 0 (by omega)
      have p1 := hcx 1 (by omega)
      have p2 := hcx 2 (by omega)
      have p3 := hcx 3 (by omega)
      have p4 := hcx 4 (by omega)
      simp only [Nat.add_zero, ← Nat.add_assoc] at p0 p1 p2 p3 p4
      have HTK := Lib.hid (show (((l.take (k + 1)).map fun x => x 0).map (Value.int .i64)) = ((l.take k).map fun x => x 0).map (Value.int .i64) ++ [.int .i64 (x 0)] by rw [List.take_add_one, hx]; simp)
      clear hcx hx hrl
      go_upto_region 5 with fail
      have BX := Lib.hid (Blk.new wr 93 (lnA x))
      have fa := (Fr.refl wr.heap.size [] wr).alloc (Nat.le_refl _) (.cells (lnA x) 93)
      have HOa := Lib.hid (ownsRow_fr HO.out fa (fun q hq => ⟨(HO.out.lt q hq).2, by simp⟩))
      have FRa := Lib.hid (FR.out.trans (fa.mono (B' := w1.heap.size) (L' := []) FR.out.size (by simp)))
      clear fa HO FR p0 p1 p2 p3 p4
      generalize wr.alloc (.cells (lnA x) 93) = wa at *
      generalize wr.heap.size = gx at *
      have x0 := BX.out.cell 0
      simp [lnA] at x0
      have hown := HOa.out
      have hsz := FRa.out.size
      go_wp2_with (at_builtin; refine wpList_app_lit _ rfl (.tmp 13) (.tmp 16) sintTy rfl w1.heap.size (.slice A k c) k _ rfl hown 1 1 _ rfl rfl (by simp [Value.oneCell']) (by omega) (by omega) hsz ?_; intro A3 c3 w3 hown3 hg3 hat3)
      have F4 := Lib.hid (FRa.out.trans (Fr.of_app hg3 hown hsz))
      have HO3 := Lib.hid hown3
      clear hown3 hg3 hat3 hown
      go_roundg (n - (k + 1))
      case measure => omega
      case rel => exact ⟨k + 1, A3, c3, by omega, rfl, by go_num, rfl, .inr ⟨_, rfl⟩, by rw [HTK.out]; exact HO3, F4⟩
    · obtain rfl : n = k := by omega
      have htk : l.take n = l := List.take_of_length_le (by rw [HN.out]; exact Nat.le_refl _)
      rw [htk] at HO
      have FF := Lib.hid (F1.out.trans (FR.out.mono (B' := w.heap.size) (L' := []) F1.out.size (by simp)))
      obtain ⟨zs, hzs⟩ : ∃ zs, zs = l.map (fun x => x 0) := ⟨_, rfl⟩
      have hsk : sinksL l = Lib.compact (srt zs) := by rw [hzs]; rfl
      have hzn : n = zs.length := by rw [hzs, List.length_map]; exact HN.out
      rw [← hzs] at HO
      have HSK := Lib.hid hsk
      clear htk hsk hzs RL F1
      rcases Nat.eq_zero_or_pos n with h0 | h0
      · subst h0
        have hz0 : zs = [] := List.eq_nil_of_length_eq_zero hzn.symm
        subst hz0
        have hc0 : Lib.compact (srt []) = [] := by simp [srt, Lib.compact, Lib.compactUpTo]
        rw [hc0] at HSK
        have HS := Lib.hid (Any.slices_Sort_int_none Try.sortI A c wr)
        have HC := Lib.hid (Any.slices_Compact_int_empty Try.compactI A c wr)
        clear HO hc0 hzn
        go_wp2_with fail
        refine HS.out.mono ?_
        rintro e w' ⟨rfl, rfl⟩
        go_wp2_with fail
        refine HC.out.mono ?_
        rintro e w' ⟨rfl, rfl⟩
        go_wp2_with fail
        go_ret
        unfold SinksOut
        rw [HSK.out]
        exact ⟨_, _, rfl, ⟨rfl, fun h => absurd h (by simp)⟩, FF.out⟩
      · obtain ⟨g, cap, hv, hbg, hlt⟩ := HO.out.form h0
        injection hv with hv1 hv2 hv3
        subst hv1
        subst hv3
        have hgw : w.heap.size ≤ g := Nat.le_trans f1s hbg
        have HS := Lib.hid (sorti_any wr w1.heap.size g c n zs hzn HO.out hn)
        have HZ := Lib.hid hzn
        clear HO hv2 hzn
        go_wp2_with fail
        refine HS.out.mono ?_
        rintro e wa ⟨rfl, hown, fa⟩
        have FA := Lib.hid (FF.out.trans (fa.mono (B' := w.heap.size) (L' := []) FF.out.size (by intro q hq hlt; simp at hq; omega)))
        have HC := compacti_any wa w1.heap.size g c n (srt zs) (by rw [srt_len]; exact HZ.out) hown hn
        obtain ⟨ks, hks⟩ : ∃ ks, ks = Lib.compact (srt zs) := ⟨_, rfl⟩
        rw [← hks] at HC HSK
        have HC := Lib.hid HC
        clear hown fa HS hks FF
        go_wp2_with fail
        refine HC.out.mono ?_
        rintro e wb ⟨rfl, hr, fb⟩
        have FB := Lib.hid (FA.out.trans (fb.mono (B' := w.heap.size) (L' := []) FA.out.size (by intro q hq hlt; simp at hq; omega)))
        have HR := Lib.hid hr
        clear hr fb HC FA
        go_wp2_with fail
        go_ret
        unfold SinksOut
        rw [HSK.out]
        exact ⟨_, _, rfl, HR.out, FB.out⟩
end
set_option maxRecDepth 100000 in
theorem ints_yes {B1 B2 : Nat} {A1 A2 : Option Addr} {c1 c2 n : Nat} {l : List Int} {w : World} (hn : n = l.length) (h1 : Reads w B1 1 A1 n (l.map (Value.int .i64))) (h2 : Reads w B2 1 A2 n (l.map (Value.int .i64))) (hB1 : B1 ≤ w.heap.size) (hB2 : B2 ≤ w.heap.size) (hl : n ≤ 1000000) :
    Calls Try.prog 33 #[.slice A1 n c1, .slice A2 n c2] w fun e w' => e = .returned (.bool true) ∧ Fr w.heap.size [] w w' := by
  have R1 := Lib.hid h1
  have R2 := Lib.hid h2
  have HN := Lib.hid hn
  clear h1 h2 hn
  go_enter Try.func33, Try.ntmps33
  have hnn : ((n : Int) != (n : Int)) = false := by simp
  go_wp2_with fail
  go_loopg [5] n (fun g s5 wr => ∃ k : Nat, k ≤ n ∧ g = n - k ∧ s5 = .int .i64 k ∧ RowKit.Hid (Fr w.heap.size [] w wr))
  case atStart => exact ⟨0, Nat.zero_le _, rfl, rfl, Lib.hid (Fr.refl _ _ _)⟩
  case round =>
    obtain ⟨k, hk, rfl, rfl, F⟩ := hrel
    by_cases hkn : k < n
    · have hki : (k : Int) < (n : Int) := by omega
      have hk0 : (0 : Int) ≤ (k : Int) := by omega
      obtain ⟨b1, o1, u1, rfl, hb1, hu1, q1⟩ := (R1.out.fr F.out hB1 (by simp)).one hkn
      obtain ⟨b2, o2, u2, rfl, hb2, hu2, q2⟩ := (R2.out.fr F.out hB2 (by simp)).one hkn
      rw [hu1] at hu2
      injection hu2 with hu2
      subst hu2
      obtain ⟨x, hx⟩ : ∃ x, l[k]? = some x := ⟨_, List.getElem?_eq_getElem (by rw [← HN.out]; exact hkn)⟩
      rw [List.getElem?_map, hx] at hu1
      injection hu1 with hu1
      subst hu1
      have hxx : (x != x) = false := by simp
      go_upto_region 6 with fail
      go_quiet (fail)
      go_wp2_with fail
      go_roundg (n - (k + 1))
      case measure => omega
      case rel => exact ⟨k + 1, by omega, rfl, by go_num, Lib.hid (F.out.drewN nq)⟩
    · obtain rfl : n = k := by omega
      go_wp2_with fail
      go_ret
      exact ⟨rfl, F.out⟩
end Go.Proofs.Ytdkdhhfejbecdaa
