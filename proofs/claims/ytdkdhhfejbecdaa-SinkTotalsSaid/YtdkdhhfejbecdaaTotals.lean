/- The contract of sink.Totals. -/
import Derived.Test.YtdkdhhfejbecdaaTotQ
import Derived.Test.YtdkdhhfejbecdaaTotS
import Derived.Test.YtdkdhhfejbecdaaSinkNone
import Derived.Test.YtdkdhhfejbecdaaBookC
import Derived.Deep.RegionHeld3
namespace Go.Proofs.Ytdkdhhfejbecdaa
open Go.RowKit Go.Fb Go.Sort
/-- The cells of totals. -/
def cellsTt (l : List (Nat → Int)) (K : List Pl) : List Value := K.flatMap fun p => totC (totF l p)
theorem totV_eq (l : List (Nat → Int)) (p : Pl) : totV l p = .agg (totC (totF l p)).toArray := rfl
theorem cellsTt_app (l : List (Nat → Int)) (a b : List Pl) : cellsTt l (a ++ b) = cellsTt l a ++ cellsTt l b := by simp [cellsTt]
theorem cellsTt_length (l : List (Nat → Int)) (K : List Pl) : (cellsTt l K).length = K.length * 6 := by
  unfold cellsTt
  induction K with
  | nil => rfl
  | cons x K ih => rw [List.flatMap_cons, List.length_append, ih]; simp [totC]; omega
theorem totTy : SliceTy Try.prog 37 40 6 48 := SliceTy.mk' (z := .agg #[.int .i64 0, .int .i64 0, .int .i64 0, .int .i64 0, .int .i64 0, .int .i64 0]) Try.underlying37 (by kernel_rfl) rfl (by omega)
theorem cen_cen (n : Int) : cen (cen n) = cen n := by unfold cen; omega
theorem sumV2 (s v : Int × Int) : sumV [s, v] = addV s v := by
  unfold sumV addV
  simp only [List.foldl_cons, List.foldl_nil]
  have h : ∀ a : Int, cen (cen (cen 0 + cen a)) = cen a := fun a => by
    rw [show cen 0 = 0 from by decide, Int.zero_add, cen_cen, cen_cen]
  rw [h, h]
theorem nodup_le : ∀ {K' K : List Pl}, K'.Nodup → (∀ p ∈ K', p ∈ K) → K'.length ≤ K.length
  | [], _, _, _ => Nat.zero_le _
  | p :: K', K, hn, hs => by
    obtain ⟨h1, h2⟩ := List.nodup_cons.1 hn
    have hp := hs p (by simp)
    have := nodup_le (K' := K') (K := K.erase p) h2 (fun q hq => (List.mem_erase_of_ne (fun e : q = p => h1 (e ▸ hq))).2 (hs q (by simp [hq])))
    rw [List.length_erase_of_mem hp] at this
    have := List.length_pos_of_mem hp
    simp only [List.length_cons]
    omega
section
variable {base gb gm : Nat} {l : List (Nat → Int)} {E : List (Int × Nat)} {ep : Int} {V : Value}
/-- What Totals leaves. -/
def TotOut (l : List (Nat → Int)) (w : World) (e : Ending) (w' : World) : Prop :=
  ∃ (K : List Pl) (L : List (Nat → Int)) (A : Option Addr) (c : Nat), KeysOk l K ∧ L.Perm (K.map (totF l)) ∧ SortedT L ∧ e = .returned (.slice A L.length c) ∧ Reads w' w'.heap.size 6 A L.length (L.flatMap totC) ∧ Fr w.heap.size [] w w'
set_option maxRecDepth 100000 in
set_option maxHeartbeats 4000000 in
theorem totals_any (w : World) (h : Bk base gb gm l E ep V w) (hn : l.length ≤ 1000000) : Calls Try.prog 20 #[.pointer (some ⟨gb, 0, none⟩)] w (TotOut l w) := by
  have HB := Lib.hid h
  have hmm := @run_makeMap Try.prog
  obtain ⟨n, hnl⟩ : ∃ n, n = l.length := ⟨_, rfl⟩
  have HN := Lib.hid hnl
  have f0 := (Fr.refl w.heap.size [] w).alloc (Nat.le_refl _) (.map #[] 0)
  have HLN := blines_any (w.alloc (.map #[] 0)) (h.keep f0) hn
  rw [← hnl] at HLN hn
  have HLN := Lib.hid HLN
  have T0 : TMap (w.alloc (.map #[] 0)) w.heap.size (keep [] (totV [])) := ⟨#[], 0, heap_alloc_new w _, by simp, by simp, rfl⟩
  clear h hnl
  go_enter Try.func20, Try.ntmps20
  go_wp2_with fail
  refine HLN.out.mono ?_
  rintro e w1 ⟨A, c, rfl, hown, f1⟩
  have M0 := Lib.hid (T0.fr f1 T0.lt (by simp))
  have F0 := Lib.hid (f0.trans (f1.mono f0.size (by simp)))
  have HR := Lib.hid (Reads.of_own hown)
  have HAP := Lib.hid (show 0 < n → ∀ ad, A = some ad → ad.block ∉ [w.heap.size] from fun _ ad hA hm => by
    obtain ⟨A', c', he, hsh, _⟩ := ownsRow_shape hown
    injection he with he
    subst he
    have := (hsh ad hA).2.2.1
    rw [List.mem_singleton] at hm
    simp at this
    omega)
  have hgm1 : w.heap.size < w1.heap.size := M0.out.lt
  clear hmm HLN T0 f0 f1 hown
  go_wp2_with fail
  go_loopg [5, 6, 7, 15] n (fun g s5 s6 s7 s15 wr => ∃ (k : Nat) (K : List Pl), k ≤ n ∧ g = n - k ∧ s15 = .int .i64 k ∧ (s5 = undef ∨ ∃ a, s5 = .pointer a) ∧ (s6 = undef ∨ ∃ a, s6 = .pointer a) ∧ (s7 = undef ∨ ∃ a, s7 = .pointer a) ∧ RowKit.Hid (KeysOk (l.take k) K ∧ K.length ≤ k) ∧ RowKit.Hid (TMap wr w.heap.size (keep K (totV (l.take k)))) ∧ RowKit.Hid (Fr w1.heap.size [w.heap.size] w1 wr))
  case atStart => exact ⟨0, [], Nat.zero_le _, rfl, rfl, .inl rfl, .inl rfl, .inl rfl, Lib.hid ⟨KeysOk.start, Nat.le_refl _⟩, M0, Lib.hid (Fr.refl _ _ _)⟩
  case round =>
    clear M0
    obtain ⟨k, K, hk, rfl, rfl, hs5, hs6, hs7, HK, M, F⟩ := hrel
    by_cases hkn : k < n
    · have hki : (k : Int) < (n : Int) := by omega
      obtain ⟨x, hx⟩ : ∃ x, l[k]? = some x := ⟨_, List.getElem?_eq_getElem (by rw [← HN.out]; exact hkn)⟩
      obtain ⟨b, off, rfl, hb, hc⟩ := reads_ln (by rw [← HN.out]; exact HR.out.frL F.out (Nat.le_refl _) HAP.out) hx
      have p0 := hc 0 (by omega)
      have p1 := hc 1 (by omega)
      have p2 := hc 2 (by omega)
      have p3 := hc 3 (by omega)
      have p4 := hc 4 (by omega)
      simp only [Nat.add_zero, ← Nat.add_assoc] at p0 p1 p2 p3 p4
      have htk : l.take (k + 1) = l.take k ++ [x] := by rw [List.take_add_one, hx]; rfl
      have HTK := Lib.hid htk
      clear hc hx htk
      have hgr : w1.heap.size ≤ wr.heap.size := F.out.size
      go_upto_region 6 with fail
      have BX := Lib.hid ((Blk.new wr 93 (lnA x)).alloc (.cells #[.int .i64 (x 0), .int .i64 (x 1), .int .i64 (x 2)] 23))
      have BK := Lib.hid (Blk.new (wr.alloc (.cells (lnA x) 93)) 23 #[.int .i64 (x 0), .int .i64 (x 1), .int .i64 (x 2)])
      have f2 := ((Fr.refl wr.heap.size [] wr).alloc (Nat.le_refl _) (.cells (lnA x) 93)).alloc (by simp) (.cells #[.int .i64 (x 0), .int .i64 (x 1), .int .i64 (x 2)] 23)
      have M2 := Lib.hid (M.out.fr f2 M.out.lt (by simp))
      have F2 := Lib.hid (F.out.trans (f2.mono F.out.size (by simp)))
      simp only [lnA, World.size_alloc] at BX BK f2 M2 F2
      clear f2 M F p0 p1 p2 p3 p4
      generalize (wr.alloc _).alloc _ = wa at *
      generalize wr.heap.size = gx at *
      obtain ⟨a, b', c', hgt⟩ := getT_tot HK.out.1 (keyL x)
      have hlk := M2.out.look (keyL x)
      rw [hgt] at hlk
      simp only [plV, keyL] at hlk
      obtain ⟨s, hs⟩ : ∃ s, s = sumV (onlyV (l.take k) (keyL x)) := ⟨_, rfl⟩
      obtain ⟨m, hm⟩ : ∃ m, m = (onlyV (l.take k) (keyL x)).length := ⟨_, rfl⟩
      have hml : m ≤ 1000000 := by have := onlyV_le (l.take k) (keyL x); rw [List.length_take] at this; omega
      have hlk2 : (Instr.lookup 102 (.map (some w.heap.size)) (.agg #[.int .i64 (x 0), .int .i64 (x 1), .int .i64 (x 2)]) false).run Try.prog wa = .ok (.agg #[.int .i64 a, .int .i64 b', .int .i64 c', .int .i64 (m : Nat), .int .i64 s.1, .int .i64 s.2]) wa := by rw [hs, hm]; exact hlk
      clear hlk
      have q0 := BK.out.cell 0
      have q1 := BK.out.cell 1
      have q2 := BK.out.cell 2
      simp at q0 q1 q2
      have HTV := Lib.hid (show totV (l.take (k + 1)) (keyL x) = .agg #[.int .i64 (x 0), .int .i64 (x 1), .int .i64 (x 2), .int .i64 ((m : Int) + 1), .int .i64 (addV s (x 3, x 4)).1, .int .i64 (addV s (x 3, x 4)).2] by
        unfold totV
        rw [HTK.out, onlyV_snoc, if_pos rfl, List.length_append, sumV_snoc, ← hs, ← hm]
        rfl)
      clear hgt hs hm
      go_upto_region 7 with fail
      have BT := Lib.hid (Blk.new wa 40 #[.int .i64 a, .int .i64 b', .int .i64 c', .int .i64 (m : Nat), .int .i64 s.1, .int .i64 s.2])
      have fb := (Fr.refl wa.heap.size [] wa).alloc (Nat.le_refl _) (.cells #[.int .i64 a, .int .i64 b', .int .i64 c', .int .i64 (m : Nat), .int .i64 s.1, .int .i64 s.2] 40)
      have M3 := Lib.hid (M2.out.fr fb M2.out.lt (by simp))
      have BX3 := Lib.hid (BX.out.fr fb BX.out.lt (by simp))
      have BK3 := Lib.hid (BK.out.fr fb BK.out.lt (by simp))
      have F3 := Lib.hid (F2.out.trans (fb.mono F2.out.size (by simp)))
      have hgx : gx + 1 < wa.heap.size := BK.out.lt
      clear fb M2 BX BK F2 q0 q1 q2 hlk2
      generalize wa.alloc (.cells #[.int .i64 a, .int .i64 b', .int .i64 c', .int .i64 (m : Nat), .int .i64 s.1, .int .i64 s.2] 40) = wb at *
      generalize wa.heap.size = gt at *
      obtain ⟨r, hr⟩ : ∃ r, r = addV s (x 3, x 4) := ⟨_, rfl⟩
      rw [← hr] at HTV
      have HFA := Lib.hid (((Fr.refl wb.heap.size [] wb).alloc (Nat.le_refl _) (.cells #[.int .i64 s.1, .int .i64 s.2, .int .i64 (x 3), .int .i64 (x 4)] 32)).drew)
      have HAD := Lib.hid (by
        have hB := (Blk.new wb 32 #[.int .i64 s.1, .int .i64 s.2, .int .i64 (x 3), .int .i64 (x 4)]).fr (Fr.refl (wb.heap.size + 1) [] (wb.alloc (.cells #[.int .i64 s.1, .int .i64 s.2, .int .i64 (x 3), .int .i64 (x 4)] 32))).drew (Nat.lt_succ_self _) (by simp)
        have h := gadd_any (some ⟨wb.heap.size, 0, none⟩) 2 (wb.heap.size + 1) [s, (x 3, x 4)] (wb.alloc (.cells #[.int .i64 s.1, .int .i64 s.2, .int .i64 (x 3), .int .i64 (x 4)] 32)).drew (Reads.of_blk (size := 2) (m := 2) hB rfl) (by simp) (by simp)
        rw [sumV2, ← hr] at h
        exact h : Calls Try.prog 60 #[.slice (some ⟨wb.heap.size, 0, none⟩) 2 2] (wb.alloc (.cells #[.int .i64 s.1, .int .i64 s.2, .int .i64 (x 3), .int .i64 (x 4)] 32)).drew fun e w' => e = .returned (.agg #[.int .i64 r.1, .int .i64 r.2]) ∧ Fr (wb.alloc (.cells #[.int .i64 s.1, .int .i64 s.2, .int .i64 (x 3), .int .i64 (x 4)] 32)).drew.heap.size [] (wb.alloc (.cells #[.int .i64 s.1, .int .i64 s.2, .int .i64 (x 3), .int .i64 (x 4)] 32)).drew w')
      have hwm : IntKind.i64.wrap ((m : Int) + 1) = (m : Int) + 1 := by rw [IntKind.wrap_i64]; omega
      clear hr
      have hne : w.heap.size ≠ gx ∧ w.heap.size ≠ gx + 1 ∧ w.heap.size ≠ gt := ⟨by omega, by omega, by omega⟩
      have M3F : RowKit.Hid (∀ (wx : World), Fr wb.heap.size [] wb wx → ∃ w5, (Instr.mapUpdate 102 (.map (some w.heap.size)) (.agg #[.int .i64 (x 0), .int .i64 (x 1), .int .i64 (x 2)]) (.agg #[.int .i64 (x 0), .int .i64 (x 1), .int .i64 (x 2), .int .i64 ((m : Int) + 1), .int .i64 r.1, .int .i64 r.2])).run Try.prog wx = .ok () w5 ∧ TMap w5 w.heap.size (keep (if keyL x ∈ K then K else K ++ [keyL x]) (totV (l.take (k + 1)))) ∧ Fr wx.heap.size [w.heap.size] wx w5) := Lib.hid (fun wx hi => by
        obtain ⟨w5, e1, e2, e3, _⟩ := (M3.out.fr hi M3.out.lt (by simp)).store (keyL x) (totV (l.take (k + 1)) (keyL x))
        rw [HTV.out] at e1
        refine ⟨w5, e1, ?_, e3⟩
        have := keep_step HK.out.1 x
        rw [← HTK.out] at this
        rw [this] at e2
        exact e2)
      have KEEP := Lib.hid (fun (wx : World) (hi : Fr wb.heap.size [w.heap.size] wb wx) => (⟨(BK3.out.fr hi BK3.out.lt (by simp; omega)).cell 0, (BK3.out.fr hi BK3.out.lt (by simp; omega)).cell 1, (BK3.out.fr hi BK3.out.lt (by simp; omega)).cell 2, (BX3.out.fr hi BX3.out.lt (by simp; omega)).cell 0, (BX3.out.fr hi BX3.out.lt (by simp; omega)).cell 1, (BX3.out.fr hi BX3.out.lt (by simp; omega)).cell 2, (BX3.out.fr hi BX3.out.lt (by simp; omega)).cell 3, (BX3.out.fr hi BX3.out.lt (by simp; omega)).cell 4, (BT.out.fr hi BT.out.lt (by simp; omega)).cell 3, (BT.out.fr hi BT.out.lt (by simp; omega)).cell 4, (BT.out.fr hi BT.out.lt (by simp; omega)).cell 5⟩ : wx.cell? ⟨gx + 1, 0, none⟩ = some (.int .i64 (x 0)) ∧ wx.cell? ⟨gx + 1, 1, none⟩ = some (.int .i64 (x 1)) ∧ wx.cell? ⟨gx + 1, 2, none⟩ = some (.int .i64 (x 2)) ∧ wx.cell? ⟨gx, 0, none⟩ = some (.int .i64 (x 0)) ∧ wx.cell? ⟨gx, 1, none⟩ = some (.int .i64 (x 1)) ∧ wx.cell? ⟨gx, 2, none⟩ = some (.int .i64 (x 2)) ∧ wx.cell? ⟨gx, 3, none⟩ = some (.int .i64 (x 3)) ∧ wx.cell? ⟨gx, 4, none⟩ = some (.int .i64 (x 4)) ∧ wx.cell? ⟨gt, 3, none⟩ = some (.int .i64 (m : Nat)) ∧ wx.cell? ⟨gt, 4, none⟩ = some (.int .i64 s.1) ∧ wx.cell? ⟨gt, 5, none⟩ = some (.int .i64 s.2)))
      have HS0 := KEEP.out wb (Fr.refl _ _ _)
      have HS0d := KEEP.out wb.drew (Fr.refl _ _ _).drew
      have HS1 := KEEP.out (wb.alloc (.cells #[.int .i64 s.1, .int .i64 s.2, .int .i64 (x 3), .int .i64 (x 4)] 32)) (((Fr.refl wb.heap.size [] wb).alloc (Nat.le_refl _) _).mono (Nat.le_refl _) (by simp))
      have HS1d := KEEP.out (wb.alloc (.cells #[.int .i64 s.1, .int .i64 s.2, .int .i64 (x 3), .int .i64 (x 4)] 32)).drew (HFA.out.mono (Nat.le_refl _) (by simp))
      go_region_held3 (fun wx => wx.cell? ⟨gx + 1, 0, none⟩ = some (.int .i64 (x 0)) ∧ wx.cell? ⟨gx + 1, 1, none⟩ = some (.int .i64 (x 1)) ∧ wx.cell? ⟨gx + 1, 2, none⟩ = some (.int .i64 (x 2)) ∧ wx.cell? ⟨gx, 0, none⟩ = some (.int .i64 (x 0)) ∧ wx.cell? ⟨gx, 1, none⟩ = some (.int .i64 (x 1)) ∧ wx.cell? ⟨gx, 2, none⟩ = some (.int .i64 (x 2)) ∧ wx.cell? ⟨gx, 3, none⟩ = some (.int .i64 (x 3)) ∧ wx.cell? ⟨gx, 4, none⟩ = some (.int .i64 (x 4)) ∧ wx.cell? ⟨gt, 3, none⟩ = some (.int .i64 (m : Nat)) ∧ wx.cell? ⟨gt, 4, none⟩ = some (.int .i64 s.1) ∧ wx.cell? ⟨gt, 5, none⟩ = some (.int .i64 s.2))
        (assumption)
        (first
          | (go_at_call 60; refine HAD.out.mono ?_; rintro e w' ⟨rfl, hf⟩; have INV := Lib.hid (HFA.out.trans (hf.mono (B' := wb.heap.size) (L' := []) HFA.out.size (by simp))); obtain ⟨w5, hst, hmp5, f5⟩ := M3F.out w' INV.out; have INV2 := Lib.hid ((INV.out.mono (L' := [w.heap.size]) (Nat.le_refl _) (by simp)).trans (f5.mono (B' := wb.heap.size) (L' := [w.heap.size]) INV.out.size (by simp))); have HM5 := Lib.hid hmp5; have HS2 := KEEP.out _ (INV.out.mono (Nat.le_refl _) (by simp)); have HS3 := KEEP.out _ INV2.out; clear hf hmp5 f5))
      have F5 := Lib.hid (F3.out.trans (INV2.out.mono (B' := w1.heap.size) (L' := [w.heap.size]) F3.out.size (by simp)))
      have HK5 := Lib.hid (show KeysOk (l.take (k + 1)) (if keyL x ∈ K then K else K ++ [keyL x]) ∧ (if keyL x ∈ K then K else K ++ [keyL x]).length ≤ k + 1 by
        rw [HTK.out]
        refine ⟨HK.out.1.step x, ?_⟩
        split
        · have := HK.out.2; omega
        · rw [List.length_append]; have := HK.out.2; simp; omega)
      clear INV INV2 HS0 HS0d HS1 HS1d HS2 HS3 KEEP M3F HAD HFA HTV M3 hst
      go_wp2_with fail
      go_roundg (n - (k + 1))
      case measure => omega
      case rel => exact ⟨k + 1, _, by omega, rfl, by go_num, .inr ⟨_, rfl⟩, .inr ⟨_, rfl⟩, .inr ⟨_, rfl⟩, HK5, HM5, F5⟩
    · obtain rfl : n = k := by omega
      have HT := Lib.hid (show KeysOk l K by have := HK.out.1; rwa [HN.out, List.take_length] at this)
      have HL := Lib.hid HK.out.2
      obtain ⟨w2, hw2⟩ : ∃ w2, w2 = wr := ⟨_, rfl⟩
      subst hw2
      obtain ⟨es, clock, hb, h1, h2, he⟩ := M.out
      rw [HN.out, List.take_length] at he
      have hrg := run_range_map (P := Try.prog) w2 102 23 40 w.heap.size es clock Try.underlying102 hb
      have HBB := Lib.hid hb
      have H1 := Lib.hid h1
      have H2 := Lib.hid h2
      have HE := Lib.hid he
      have hgr : w1.heap.size ≤ w2.heap.size := F.out.size
      have hgi : w.heap.size < w2.heap.size := by omega
      have hKn := HL.out
      obtain ⟨gi, hgi2⟩ : ∃ gi, gi = w2.heap.size := ⟨_, rfl⟩
      have HGI := Lib.hid hgi2
      have F20 := Lib.hid (F0.out.trans (F.out.mono (B' := w.heap.size) (L' := []) (by omega) (by simp)))
      clear hb h1 h2 he M HK
      go_wp2_with fail
      rw [← hgi2] at hgi
      simp only [← hgi2]
      clear hgi2
      go_loopw [8, 10] (fun s8 s10 wr => ∃ (seen : Array Nat) (K' : List Pl) (A' : Option Addr) (c' : Nat), s8 = .slice A' K'.length c' ∧ (s10 = undef ∨ ∃ a, s10 = .pointer a) ∧ RowKit.Hid (wr.heap[gi]? = some (.mapIter (some w.heap.size) clock seen clock)) ∧ RowKit.Hid (Took es K K' seen) ∧ RowKit.Hid (K'.length = 0 → A' = none ∧ c' = 0) ∧ RowKit.Hid (wr.ownsRow (gi + 1) 40 6 (.slice A' K'.length c') K'.length (cellsTt l K')) ∧ RowKit.Hid (Fr gi [] w2 wr)) (fun _ _ wr => (leftOf es (wr.iterSeen gi)).size)
      case atStart => exact ⟨#[], [], none, 0, rfl, .inl rfl, Lib.hid (by rw [HGI.out]; exact heap_alloc_new w2 _), Lib.hid (Took.start _ _), Lib.hid (fun _ => ⟨rfl, rfl⟩), Lib.hid (World.ownsRow_nil _ _ _ _), Lib.hid (by rw [HGI.out]; exact (Fr.refl _ _ _).alloc (Nat.le_refl _) _)⟩
      case round =>
        clear hrg
        obtain ⟨seen, K', A', c', rfl, hs10, HI, HTk, HZ, HO, FF⟩ := hrel
        have hbm := (FF.out.block w.heap.size hgi (by simp)).trans HBB.out
        have hKl : K'.length ≤ K.length := nodup_le HTk.out.nd HTk.out.sub
        rcases run_next_at (P := Try.prog) wr 0 gi w.heap.size clock clock seen es clock HI.out hbm H1.out (Nat.le_refl _) with ⟨h0, hrun⟩ | ⟨e, hel, w3, hw3, hrun⟩
        · have hnx : ∀ ty, (Instr.next (.pointer (some ⟨gi, 0, none⟩)) false ty).run Try.prog wr = _ := fun _ => hrun
          have HD := Lib.hid (HTk.out.done HE.out h0 HT.out)
          clear hrun h0 hbm
          have FT := Lib.hid (F20.out.trans (FF.out.mono (B' := w.heap.size) (L' := []) (by omega) (by simp)))
          have hgs : gi ≤ wr.heap.size := by have := FF.out.size; rw [HGI.out]; exact this
          by_cases hm0 : K'.length = 0
          · obtain ⟨rfl, rfl⟩ := HZ.out hm0
            have hKe : K' = [] := List.eq_nil_of_length_eq_zero hm0
            rw [hKe] at HD
            rw [hm0]
            have HS := Lib.hid nsortf
            clear HZ HO HTk
            go_wp2_with fail
            refine (HS.out _ _).mono ?_
            rintro e w' ⟨rfl, rfl⟩
            go_wp2_with fail
            go_ret
            exact ⟨[], [], none, 0, HD.out, .nil, fun i j _ h => by simp at h, rfl, Reads.none_, FT.out⟩
          · obtain ⟨g, cap, hv, hbg, hlt⟩ := HO.out.form (by omega)
            injection hv with hv1 _ hv2
            subst hv1
            subst hv2
            obtain ⟨L, hL⟩ : ∃ L, L = K'.map (totF l) := ⟨_, rfl⟩
            have hLl : K'.length = L.length := by rw [hL, List.length_map]
            have hLc : cellsTt l K' = L.flatMap totC := by rw [hL, List.flatMap_map]; rfl
            have HL2 := Lib.hid hL
            have HS := Lib.hid (sortTot_any wr g c' (gi + 1) L (by have h := HO.out; rw [hLl, hLc] at h; exact h) hlt (by omega))
            rw [hLl]
            clear HZ HO HTk hLc hL
            go_wp2_with fail
            refine HS.out.mono ?_
            rintro e w' ⟨rfl, L', hp, hs, hr, hf⟩
            have HR2 := Lib.hid hr
            have HP2 := Lib.hid hp
            have HSO := Lib.hid hs
            have FN := Lib.hid (FT.out.trans (hf.mono (B' := w.heap.size) (L' := []) (by omega) (by intro q hq hlt2; simp at hq; omega)))
            have hsz := hf.size
            clear hr hp hs hf
            go_wp2_with fail
            go_ret
            exact ⟨K', L', some ⟨g, 0, none⟩, _, HD.out, by rw [← HL2.out]; exact HP2.out, HSO.out, (by rw [HP2.out.length_eq]; rfl), (by rw [HP2.out.length_eq]; exact HR2.out.more (by omega)), FN.out⟩
        · obtain ⟨hee, _⟩ := mem_left hel
          obtain ⟨p, hpK, hk2, hxv⟩ := entry_pl HE.out hee
          have HT2 := Lib.hid (HTk.out.step H2.out HE.out HT.out.nd hel hpK hk2)
          obtain ⟨t, ht⟩ : ∃ t, t = totF l p := ⟨_, rfl⟩
          have hxv : e.val = .agg #[.int .i64 (t 0), .int .i64 (t 1), .int .i64 (t 2), .int .i64 (t 3), .int .i64 (t 4), .int .i64 (t 5)] := by rw [hxv, totV_eq, ← ht]; rfl
          have hsz3 : w3.heap.size = wr.heap.size := by rcases hw3 with rfl | rfl <;> rfl
          have hlt : gi < w3.heap.size := by
            rw [hsz3]
            rcases Nat.lt_or_ge gi wr.heap.size with h | h
            · exact h
            · have := HI.out; rw [Array.getElem?_eq_none h] at this; cases this
          have F1 : Fr wr.heap.size [] wr w3 := by
            rcases hw3 with rfl | rfl
            · exact Fr.refl _ _ _
            · exact (Fr.refl _ _ _).drew
          have hen := run_entry_at (P := Try.prog) (Go.ChangeMaps.setBlock w3 gi (.mapIter (some w.heap.size) clock (seen.push e.born) clock)) gi w.heap.size clock seen es clock e (setBlock_new hlt _) (((setBlock_fr w3 gi _).block w.heap.size (by omega) (by simp; omega)).trans ((F1.block w.heap.size (by omega) (by simp)).trans hbm)) hee H2.out
          rw [hxv] at hrun hen
          have hnx : ∀ ty, (Instr.next (.pointer (some ⟨gi, 0, none⟩)) false ty).run Try.prog wr = _ := fun _ => hrun
          have HI2 := Lib.hid (setBlock_new (w := w3) hlt (.mapIter (some w.heap.size) clock (seen.push e.born) clock))
          have F2 := Lib.hid ((F1.mono (B' := wr.heap.size) (L' := [gi]) (Nat.le_refl _) (by simp)).trans ((setBlock_fr w3 gi (.mapIter (some w.heap.size) clock (seen.push e.born) clock)).mono (B' := wr.heap.size) (L' := [gi]) (by omega) (by simp)))
          have HSH := Lib.hid (show (leftOf es ((Go.ChangeMaps.setBlock w3 gi (.mapIter (some w.heap.size) clock (seen.push e.born) clock)).iterSeen gi)).size < (leftOf es (wr.iterSeen gi)).size by rw [iterSeen_of HI.out, iterSeen_of HI2.out]; exact left_shrinks es seen e (by simpa using hel))
          have hltr : gi < wr.heap.size := by omega
          generalize Go.ChangeMaps.setBlock w3 gi (.mapIter (some w.heap.size) clock (seen.push e.born) clock) = w4 at *
          have HO4 := Lib.hid (ownsRow_fr HO.out F2.out (fun k hk => ⟨(HO.out.lt k hk).2, by have := (HO.out.lt k hk).1; simp; omega⟩))
          have F4 := Lib.hid (FF.out.trans (F2.out.mono (B' := gi) (L' := []) (by omega) (by intro q hq hlt; simp at hq; omega)))
          have hs4 : wr.heap.size ≤ w4.heap.size := F2.out.size
          have HKY := Lib.hid hk2
          clear hrun hee hk2 hxv hel hlt F1 hw3 hsz3 hbm
          have HTC := Lib.hid (show cellsTt l K' ++ [.int .i64 (t 0), .int .i64 (t 1), .int .i64 (t 2), .int .i64 (t 3), .int .i64 (t 4), .int .i64 (t 5)] = cellsTt l (K' ++ [p]) by rw [cellsTt_app, ht]; rfl)
          clear ht
          go_upto_region 13 with fail
          have B5 := Blk.new w4 40 #[.int .i64 (t 0), .int .i64 (t 1), .int .i64 (t 2), .int .i64 (t 3), .int .i64 (t 4), .int .i64 (t 5)]
          have F5 := Lib.hid ((Fr.refl (gi + 1) [] w4).alloc (by omega) (.cells #[.int .i64 (t 0), .int .i64 (t 1), .int .i64 (t 2), .int .i64 (t 3), .int .i64 (t 4), .int .i64 (t 5)] 40))
          have HO5 := Lib.hid (HO4.out.alloc (.cells #[.int .i64 (t 0), .int .i64 (t 1), .int .i64 (t 2), .int .i64 (t 3), .int .i64 (t 4), .int .i64 (t 5)] 40))
          have hs5 : wr.heap.size ≤ (w4.alloc (.cells #[.int .i64 (t 0), .int .i64 (t 1), .int .i64 (t 2), .int .i64 (t 3), .int .i64 (t 4), .int .i64 (t 5)] 40)).heap.size := by simp; omega
          clear hen hnx
          have B5 := Lib.hid B5
          generalize w4.alloc (.cells #[.int .i64 (t 0), .int .i64 (t 1), .int .i64 (t 2), .int .i64 (t 3), .int .i64 (t 4), .int .i64 (t 5)] 40) = w5 at *
          generalize w4.heap.size = g4 at *
          have q0 := B5.out.cell 0
          have q1 := B5.out.cell 1
          have q2 := B5.out.cell 2
          have q3 := B5.out.cell 3
          have q4 := B5.out.cell 4
          have q5 := B5.out.cell 5
          simp at q0 q1 q2 q3 q4 q5
          clear B5
          go_wp2_with (at_builtin; refine wpList_app_lit w5 rfl (.tmp 54) (.tmp 56) totTy rfl (gi + 1) (.slice A' K'.length c') K'.length (cellsTt l K') rfl HO5.out 1 1 #[.int .i64 (t 0), .int .i64 (t 1), .int .i64 (t 2), .int .i64 (t 3), .int .i64 (t 4), .int .i64 (t 5)] rfl rfl (by simp [Value.oneCell']) (by omega) (by omega) (by omega) ?_; intro A2 c2 w6 hown6 hg6 hat6)
          have hob : ∀ q, (Value.slice A' K'.length c').ownBlock = some q → gi + 1 ≤ q ∨ q ∈ ([] : List Nat) := fun q hq => .inl (HO5.out.lt q hq).1
          have F6 := Lib.hid ((F5.out.alloc (by omega) _).grown hg6 (by simp; omega) hob)
          have HO6 := Lib.hid (show w6.ownsRow (gi + 1) 40 6 (.slice A2 (K'.length + 1) c2) (K'.length + 1) (cellsTt l (K' ++ [p])) by rw [← HTC.out]; exact hown6)
          have HI6 := Lib.hid ((F6.out.block gi (by omega) (by simp)).trans HI2.out)
          have F7 := Lib.hid (F4.out.trans (F6.out.mono (B' := gi) (L' := []) (by omega) (by simp)))
          have HSH6 := Lib.hid (show (leftOf es (w6.iterSeen gi)).size < (leftOf es (wr.iterSeen gi)).size by rw [iterSeen_of HI6.out, ← iterSeen_of HI2.out]; exact HSH.out)
          clear hg6 hat6 hown6 hob
          go_roundw
          case rel => exact ⟨seen.push e.born, K' ++ [p], A2, c2, by rw [List.length_append]; rfl, .inr ⟨_, rfl⟩, HI6, HT2, Lib.hid (fun h => by simp at h), by rw [List.length_append]; exact HO6, F7⟩
          case measure => exact HSH6.out
end
end Go.Proofs.Ytdkdhhfejbecdaa
