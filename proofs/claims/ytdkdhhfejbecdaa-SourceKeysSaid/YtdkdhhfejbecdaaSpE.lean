/- A source with one to three partitions: Of and Keys. -/
import Derived.Test.YtdkdhhfejbecdaaSpD
import Derived.Test.YtdkdhhfejbecdaaDelRecB
import Derived.Test.YtdkdhhfejbecdaaSortI
namespace Go.Proofs.Ytdkdhhfejbecdaa
open Go.RowKit Go.Fb
set_option maxRecDepth 100000 in
theorem unkey_any (key : Int) (gk : Nat) (x : Nat → Int) (w : World) (hb : Blk w gk 3 #[.int .i64 key]) : Calls Try.prog 77 #[.agg #[.int .i64 (x 0), .int .i64 (x 1), .int .i64 (x 2)], .pointer (some ⟨gk, 0, none⟩)] w fun e w' => e = .returned (.bool (!decide (x 0 = key))) ∧ Fr w.heap.size [] w w' := by
  have B := Lib.hid (hb.alloc (.cells #[.int .i64 (x 0), .int .i64 (x 1), .int .i64 (x 2)] 64))
  have f := Lib.hid ((Fr.refl w.heap.size [] w).alloc (Nat.le_refl _) (.cells #[.int .i64 (x 0), .int .i64 (x 1), .int .i64 (x 2)] 64))
  have k0 := B.out.cell 0
  simp at k0
  obtain ⟨b, hbv⟩ : ∃ b, b = (!decide (x 0 = key)) := ⟨_, rfl⟩
  have HB := Lib.hid hbv
  have hlt := hb.lt
  rw [← hbv]
  clear hb hbv
  go_enter Try.func77, Try.ntmps77
  go_wp2_with fail
  go_ret
  exact ⟨by rw [HB.out]; congr 2, f.out⟩
section
variable {base gs gp P : Nat} {r : Nat → Int} {R : Nat → List (Nat → Int)} {V : Nat → Value}
/-- The records of one key. -/
def ofK (l : List (Nat → Int)) (key : Int) : List (Nat → Int) := l.filter fun x => decide (x 0 = key)
def OfOut (l : List (Nat → Int)) (w : World) (e : Ending) (w' : World) : Prop :=
  ∃ A c k, k = l.length ∧ e = .returned (.slice A k c) ∧ Reads w' w'.heap.size 3 A k (cellsR l) ∧ Fr w.heap.size [] w w'
set_option maxRecDepth 100000 in
set_option maxHeartbeats 2000000 in
theorem of_any {w : World} (h : Sp base gs gp P r R V w) (hl : (flatR R P).length ≤ 1000) (key : Int) : Calls Try.prog 32 #[.pointer (some ⟨gs, 0, none⟩), .int .i64 key] w (OfOut (ofK (flatR R P) key) w) := by
  have BK := Lib.hid (Blk.new w 3 #[.int .i64 key])
  have fk := (Fr.refl w.heap.size [] w).alloc (Nat.le_refl _) (.cells #[.int .i64 key] 3)
  have hk := h.keep fk
  have HLN := Lib.hid (lens_any hk)
  have HS := Lib.hid hk
  have FK := Lib.hid fk
  clear h hk fk
  go_enter Try.func32, Try.ntmps32
  go_wp2_with fail
  generalize w.alloc (.cells #[.int .i64 key] 3) = w1 at *
  refine HLN.out.mono ?_
  rintro e w2 ⟨A2, c2, rfl, ho2, f2⟩
  have F2 := Lib.hid (FK.out.trans (f2.mono (B' := w.heap.size) (L' := []) FK.out.size (by simp)))
  have BK2 := Lib.hid (BK.out.fr f2 BK.out.lt (by simp))
  have HAL := all_any (HS.out.keep f2) hl A2 c2 w2.heap.size (Reads.of_own ho2) (Nat.le_refl _)
  unfold AllOut at HAL
  obtain ⟨l, hll⟩ : ∃ l, l = flatR R P := ⟨_, rfl⟩
  rw [← hll] at HAL
  obtain ⟨n, hn⟩ : ∃ n, n = l.length := ⟨_, rfl⟩
  rw [← hn] at HAL
  have hn1 : n ≤ 1000 := by rw [hn, hll]; exact hl
  have HAL := Lib.hid HAL
  have HL := Lib.hid hll
  have HN := Lib.hid hn
  clear f2 ho2 HLN HS FK BK hll hn
  go_wp2_with fail
  refine HAL.out.mono ?_
  rintro e w3 ⟨A3, c3, rfl, ho3, f3⟩
  have F3 := Lib.hid (F2.out.trans (f3.mono (B' := w.heap.size) (L' := []) F2.out.size (by simp)))
  have BK3 := Lib.hid (BK2.out.fr f3 BK2.out.lt (by simp))
  have h2w := F2.out.size
  have hent := enters_of Try.func77 (by kernel_rfl) rfl
  rcases Nat.eq_zero_or_pos n with h0 | h0
  · subst h0
    have hl0 : l = [] := List.eq_nil_of_length_eq_zero HN.out.symm
    have hof : ofK (flatR R P) key = [] := by rw [← HL.out, hl0]; rfl
    have HOF := Lib.hid hof
    have HDL := Lib.hid (delrec_nil 77 #[.pointer (some ⟨w.heap.size, 0, none⟩)] (fun x => decide (x 0 = key)) A3 c3 w3 hent (fun x w' hf => unkey_any key w.heap.size x w' (BK3.out.fr hf BK3.out.lt (by simp))))
    clear hof ho3 f3 hl0
    go_wp2_with fail
    refine HDL.out.mono ?_
    rintro e w4 ⟨rfl, f4⟩
    have F4 := Lib.hid (F3.out.trans (f4.mono (B' := w.heap.size) (L' := []) F3.out.size (by simp)))
    clear f4 HDL
    go_wp2_with fail
    go_ret
    unfold OfOut
    rw [HOF.out]
    exact ⟨_, _, 0, rfl, rfl, ⟨rfl, fun h => absurd h (by omega)⟩, F4.out⟩
  · obtain ⟨g, cap, hv, hbg, hlt⟩ := ho3.form h0
    injection hv with hv1 _ hv3
    subst hv1
    subst hv3
    have hgg : w.heap.size ≠ g := by have := BK2.out.lt; omega
    have HDL := delrec_any 77 #[.pointer (some ⟨w.heap.size, 0, none⟩)] (fun x => decide (x 0 = key)) w2.heap.size g c3 n l w3 hent (fun x w' hf => unkey_any key w.heap.size x w' (BK3.out.fr hf BK3.out.lt (by simpa using hgg))) HN.out (by omega) ho3
    have HDL := Lib.hid HDL
    clear ho3 f3
    go_wp2_with fail
    refine HDL.out.mono ?_
    rintro e w4 ⟨k, hk, rfl, hr4, f4⟩
    have HKL := Lib.hid hk
    have HR4 := Lib.hid hr4
    have F4 := Lib.hid (F3.out.trans (f4.mono (B' := w.heap.size) (L' := []) F3.out.size (by intro q hq hlt2; simp at hq; omega)))
    clear hk hr4 f4 HDL
    go_wp2_with fail
    go_ret
    unfold OfOut ofK
    rw [← HL.out]
    exact ⟨_, _, k, HKL.out, rfl, HR4.out, F4.out⟩
/-- The keys of records, each once, rising. -/
def keysL (l : List (Nat → Int)) : List Int := Lib.compact (srt (l.map fun x => x 0))
theorem keysL_mem {l : List (Nat → Int)} (x : Int) : x ∈ keysL l ↔ ∃ y ∈ l, y 0 = x := by
  unfold keysL
  rw [compact_mem, (srt_perm _).mem_iff, List.mem_map]
theorem keysL_rises (l : List (Nat → Int)) : (keysL l).Pairwise (· < ·) := compact_rises (srt_sorted _)
def KeysOut (l : List (Nat → Int)) (w : World) (e : Ending) (w' : World) : Prop :=
  ∃ A c, e = .returned (.slice A (keysL l).length c) ∧ Reads w' w'.heap.size 1 A (keysL l).length ((keysL l).map (Value.int .i64)) ∧ Fr w.heap.size [] w w'
set_option maxRecDepth 100000 in
set_option maxHeartbeats 2000000 in
theorem keys_any {w : World} (h : Sp base gs gp P r R V w) (hl : (flatR R P).length ≤ 1000) : Calls Try.prog 30 #[.pointer (some ⟨gs, 0, none⟩)] w (KeysOut (flatR R P) w) := by
  have HLN := Lib.hid (lens_any h)
  have HS := Lib.hid h
  obtain ⟨l, hll⟩ : ∃ l, l = flatR R P := ⟨_, rfl⟩
  obtain ⟨n, hnl⟩ : ∃ n, n = l.length := ⟨_, rfl⟩
  have hn : n ≤ 1000 := by rw [hnl, hll]; exact hl
  have HL := Lib.hid hll
  have HN := Lib.hid hnl
  have HALL := Lib.hid (fun (wx : World) (hf : Fr w.heap.size [] w wx) (A : Option Addr) (c : Nat) (hr : Reads wx wx.heap.size 1 A P (lensL R P)) => (by have o := all_any (h.keep hf) hl A c wx.heap.size hr (Nat.le_refl _); unfold AllOut at o; rw [← hll, ← hnl] at o; exact o : Calls Try.prog 72 #[.pointer (some ⟨gs, 0, none⟩), .slice A P c] wx (fun e w' => ∃ A' c', e = .returned (.slice A' n c') ∧ w'.ownsRow wx.heap.size 64 3 (.slice A' n c') n (cellsR l) ∧ Fr wx.heap.size [] wx w')))
  clear h hl hll hnl
  go_enter Try.func30, Try.ntmps30
  go_wp2_with fail
  refine HLN.out.mono ?_
  rintro e w0 ⟨A0, c0, rfl, ho0, f0⟩
  have HAL := Lib.hid (HALL.out w0 f0 A0 c0 (Reads.of_own ho0))
  have F0 := Lib.hid f0
  clear ho0 f0 HLN HALL
  go_wp2_with fail
  refine HAL.out.mono ?_
  rintro e w1 ⟨A1, c1, rfl, hown, f1⟩
  have RL := Lib.hid (Reads.of_own hown)
  have F1 := Lib.hid (F0.out.trans (f1.mono (B' := w.heap.size) (L' := []) F0.out.size (by simp)))
  have f1s := F1.out.size
  clear hown f1 HAL F0
  go_wp2_with fail
  go_loopg [3, 11] n (fun g s3 s11 wr => ∃ (k : Nat) (A : Option Addr) (c : Nat), k ≤ n ∧ g = n - k ∧ s11 = .int .i64 k ∧ s3 = .slice A k c ∧ RowKit.Hid (wr.ownsRow w1.heap.size 3 1 (.slice A k c) k (((l.take k).map fun x => x 0).map (Value.int .i64))) ∧ RowKit.Hid (Fr w1.heap.size [] w1 wr))
  case atStart => exact ⟨0, none, 0, Nat.zero_le _, rfl, rfl, rfl, Lib.hid (World.ownsRow_nil _ _ _ _), Lib.hid (Fr.refl _ _ _)⟩
  case round =>
    obtain ⟨k, A, c, hk, rfl, rfl, rfl, HO, FR⟩ := hrel
    by_cases hkn : k < n
    · have hki : (k : Int) < (n : Int) := by omega
      obtain ⟨x, hx⟩ : ∃ x, l[k]? = some x := ⟨_, List.getElem?_eq_getElem (by rw [← HN.out]; exact hkn)⟩
      have hrl := RL.out.fr FR.out (Nat.le_refl _) (by simp)
      rw [HN.out] at hrl
      obtain ⟨b2, off2, hA2, hb2, hcx⟩ := reads_rec hrl hx
      subst hA2
      have p0 := hcx 0 (by omega)
      have p1 := hcx 1 (by omega)
      have p2 := hcx 2 (by omega)
      simp only [Nat.add_zero, ← Nat.add_assoc] at p0 p1 p2
      have HTK := Lib.hid (show (((l.take (k + 1)).map fun x => x 0).map (Value.int .i64)) = ((l.take k).map fun x => x 0).map (Value.int .i64) ++ [.int .i64 (x 0)] by rw [List.take_add_one, hx]; simp)
      clear hcx hx hrl
      go_upto_region 5 with fail
      have BX := Lib.hid (Blk.new wr 64 #[.int .i64 (x 0), .int .i64 (x 1), .int .i64 (x 2)])
      have fa := (Fr.refl wr.heap.size [] wr).alloc (Nat.le_refl _) (.cells #[.int .i64 (x 0), .int .i64 (x 1), .int .i64 (x 2)] 64)
      have HOa := Lib.hid (ownsRow_fr HO.out fa (fun q hq => ⟨(HO.out.lt q hq).2, by simp⟩))
      have FRa := Lib.hid (FR.out.trans (fa.mono (B' := w1.heap.size) (L' := []) FR.out.size (by simp)))
      clear fa HO FR p0 p1 p2
      generalize wr.alloc (.cells #[.int .i64 (x 0), .int .i64 (x 1), .int .i64 (x 2)] 64) = wa at *
      generalize wr.heap.size = gx at *
      have x0 := BX.out.cell 0
      simp at x0
      have hown := HOa.out
      have hsz := FRa.out.size
      go_wp2_with (at_builtin; refine wpList_app_lit _ rfl (.tmp 15) (.tmp 18) intsTy rfl w1.heap.size (.slice A k c) k _ rfl hown 1 1 _ rfl rfl (by simp [Value.oneCell']) (by omega) (by omega) hsz ?_; intro A3 c3 w3 hown3 hg3 hat3)
      have F4 := Lib.hid (FRa.out.trans (Fr.of_app hg3 hown hsz))
      have HO3 := Lib.hid hown3
      clear hown3 hg3 hat3 hown
      go_roundg (n - (k + 1))
      case measure => omega
      case rel => exact ⟨k + 1, A3, c3, by omega, rfl, by go_num, rfl, by rw [HTK.out]; exact HO3, F4⟩
    · obtain rfl : n = k := by omega
      have htk : l.take n = l := List.take_of_length_le (by rw [HN.out]; exact Nat.le_refl _)
      rw [htk] at HO
      have FF := Lib.hid (F1.out.trans (FR.out.mono (B' := w.heap.size) (L' := []) F1.out.size (by simp)))
      obtain ⟨zs, hzs⟩ : ∃ zs, zs = l.map (fun x => x 0) := ⟨_, rfl⟩
      have hsk : keysL (flatR R P) = Lib.compact (srt zs) := by rw [hzs, HL.out]; rfl
      have hzn : n = zs.length := by rw [hzs, List.length_map]; exact HN.out
      rw [← hzs] at HO
      have HSK := Lib.hid hsk
      clear htk hsk hzs RL F1
      rcases Nat.eq_zero_or_pos n with h0 | h0
      · subst h0
        have hz0 : zs = [] := List.eq_nil_of_length_eq_zero hzn.symm
        subst hz0
        have hc0 : Lib.compact (srt []) = [] := by simp [srt, Lib.compact, Lib.compactUpTo]
        rw [hc0] at HSK
        have HS := Lib.hid (Any.slices_Sort_int_none Try.sortI A c wr)
        have HC := Lib.hid (Any.slices_Compact_int_empty Try.compactI A c wr)
        clear HO hc0 hzn
        go_wp2_with fail
        refine HS.out.mono ?_
        rintro e w' ⟨rfl, rfl⟩
        go_wp2_with fail
        refine HC.out.mono ?_
        rintro e w' ⟨rfl, rfl⟩
        go_wp2_with fail
        go_ret
        unfold KeysOut
        rw [HSK.out]
        exact ⟨_, _, rfl, ⟨rfl, fun h => absurd h (by simp)⟩, FF.out⟩
      · obtain ⟨g, cap, hv, hbg, hlt⟩ := HO.out.form h0
        injection hv with hv1 hv2 hv3
        subst hv1
        subst hv3
        have hgw : w.heap.size ≤ g := Nat.le_trans f1s hbg
        have HS := Lib.hid (sorti_any wr w1.heap.size g c n zs hzn HO.out (by omega))
        have HZ := Lib.hid hzn
        clear HO hv2 hzn
        go_wp2_with fail
        refine HS.out.mono ?_
        rintro e wa ⟨rfl, hown, fa⟩
        have FA := Lib.hid (FF.out.trans (fa.mono (B' := w.heap.size) (L' := []) FF.out.size (by intro q hq hlt; simp at hq; omega)))
        have HC := compacti_any wa w1.heap.size g c n (srt zs) (by rw [srt_len]; exact HZ.out) hown (by omega)
        obtain ⟨ks, hks⟩ : ∃ ks, ks = Lib.compact (srt zs) := ⟨_, rfl⟩
        rw [← hks] at HC HSK
        have HC := Lib.hid HC
        clear hown fa HS hks FF
        go_wp2_with fail
        refine HC.out.mono ?_
        rintro e wb ⟨rfl, hr, fb⟩
        have FB := Lib.hid (FA.out.trans (fb.mono (B' := w.heap.size) (L' := []) FA.out.size (by intro q hq hlt; simp at hq; omega)))
        have HR := Lib.hid hr
        clear hr fb HC FA
        go_wp2_with fail
        go_ret
        unfold KeysOut
        rw [HSK.out]
        exact ⟨_, _, rfl, HR.out, FB.out⟩
end
end Go.Proofs.Ytdkdhhfejbecdaa
