/- Texts merged into one, for the number of files a claim may have: RmA, RmB, RmC, RmP, RmD, RmK. -/
import Derived.Test.YtfakgidimekikaaGreatMCtE
import Derived.Test.YtfakgidimekikaaGreatMI
import Derived.Test.YtfakgidimekikaaGreatMApU
import Derived.Test.YtfakgidimekikaaGreatMB
import Derived.Test.YtfakgidimekikaaGreatMF
import Derived.Test.YtfakgidimekikaaGreatMPlK
import Derived.Deep.DeepCutAuto
import Derived.Deep.RegionHeld3
namespace Go.Proofs.YtfakgidimekikaaGreat
open Go.RowKit Go.Fb
set_option linter.unusedVariables false
def intsK (k : Nat) : List Int := (List.range k).map fun j : Nat => (j : Int)
theorem intsK_succ (k : Nat) : intsK (k + 1) = intsK k ++ [(k : Int)] := by unfold intsK; rw [List.range_succ, List.map_append]; rfl
theorem intsK_has (x : Int) : hasI (intsK 8) (x % 8) = true := by
  unfold hasI intsK
  rw [List.any_eq_true]
  refine ⟨x % 8, List.mem_map.2 ⟨(x % 8).toNat, List.mem_range.2 (by omega), by omega⟩, by simp⟩
set_option maxRecDepth 100000 in
set_option maxHeartbeats 2000000 in
theorem rall_any (w : World) : Calls Tryz.prog 59 #[] w fun e w' => ∃ A c, e = .returned (.slice A 8 c) ∧ Reads w' w'.heap.size 1 A 8 ((intsK 8).map (Value.int .i64)) ∧ Fr w.heap.size [] w w' := by
  go_enter Tryz.func59, Tryz.ntmps59
  go_wp2_with fail
  go_loopg [1, 2, 3] 8 (fun g s1 s2 s3 wr => ∃ (k : Nat) (A : Option Addr) (c : Nat), k ≤ 8 ∧ g = 8 - k ∧ s1 = .slice A k c ∧ s3 = .int .i64 k ∧ (s2 = undef ∨ ∃ i : Int, s2 = .int .i64 i) ∧ RowKit.Hid (wr.ownsRow w.heap.size 3 1 (.slice A k c) k ((intsK k).map (Value.int .i64))) ∧ RowKit.Hid (Fr w.heap.size [] w wr))
  case atStart => exact ⟨0, none, 0, by omega, rfl, rfl, rfl, .inl rfl, Lib.hid (World.ownsRow_nil _ _ _ _), Lib.hid (Fr.refl _ _ _)⟩
  case round =>
    obtain ⟨k, A, c, hk, rfl, rfl, rfl, hs2, HO, F⟩ := hrel
    by_cases hk8 : k < 8
    · have hki : (k : Int) < 8 := by omega
      have hsz : w.heap.size ≤ wr.heap.size := F.out.size
      go_wp2_with (at_builtin; refine wpList_app_lit wr rfl (.tmp 6) (.tmp 8) intsTy rfl w.heap.size (.slice A k c) k ((intsK k).map (Value.int .i64)) rfl HO.out 1 1 #[.int .i64 (k : Int)] rfl rfl (by simp [Value.oneCell']) (by omega) (by omega) hsz ?_; intro A2 c2 w2 hown2 hg2 hat2)
      have HO2 := Lib.hid (show w2.ownsRow w.heap.size 3 1 (.slice A2 (k + 1) c2) (k + 1) ((intsK (k + 1)).map (Value.int .i64)) by rw [intsK_succ, List.map_append]; exact hown2)
      have F2 := Lib.hid ((F.out.alloc hsz _).grown hg2 (by simp; omega) (fun q hq => .inl (HO.out.lt q hq).1))
      clear hown2 hg2 hat2
      go_roundg (8 - (k + 1))
      case measure => omega
      case rel => exact ⟨k + 1, A2, c2, by omega, rfl, rfl, by go_num, .inr ⟨_, rfl⟩, HO2, F2⟩
    · obtain rfl : k = 8 := by omega
      go_wp2_with fail
      go_ret
      exact ⟨A, c, rfl, Reads.of_own HO.out, F.out⟩
/-- Does a step drop what a node keeps? -/
def dropsB (s : Stp) : Bool := (decide (s.kind = 1) && s.rs) || (decide (s.kind = 3) || decide (s.kind = 2))
def nodeQ (id : Int) (p : Pk) : Bool := decide (p.1 = id)
def keptT (s : Stp) (T : Pk → CV) : Pk → CV := if dropsB s = true then dropQ (nodeQ s.nd.id) T else T
def stpE (s : Stp) : Int := if s.kind < 1 ∨ 5 < s.kind then 11 else 0
theorem ofB_all (id : Int) : ofB id (intsK 8) = nodeQ id := by
  funext p
  unfold ofB nodeQ
  rw [intsK_has, Bool.and_true]
theorem TOk.kept {T : Pk → CV} (h : TOk T) (s : Stp) : TOk (keptT s T) := by
  unfold keptT
  split
  · exact h.drop _
  · exact h
/-- What Step leaves. -/
def RmOut (gt gm : Nat) (r : Int) (T : Pk → CV) (w : World) (e : Ending) (w' : World) : Prop := e = .returned (.int .i64 r) ∧ CT w' gt gm T ∧ Fr w.heap.size [gm] w w'
theorem rm_bad {s : Stp} (h : s.kind < 1 ∨ 5 < s.kind) : stpE s = 11 := if_pos h
theorem rm_ok {s : Stp} (h : 1 ≤ s.kind ∧ s.kind ≤ 5) : stpE s = 0 := if_neg (by omega)
set_option maxRecDepth 100000 in
set_option maxHeartbeats 4000000 in
theorem rmstep_any (gt gm : Nat) (T : Pk → CV) (hok : TOk T) (s : Stp) (sf sp : Value) (w : World) (h : CT w gt gm T) :
    Calls Tryz.prog 30 #[.pointer (some ⟨gt, 0, none⟩), .agg (stV s sf sp)] w (RmOut gt gm (stpE s) (if stpE s = 0 then keptT s T else T) w) := by
  have fa := (Fr.refl w.heap.size [] w).alloc (Nat.le_refl _) (.cells #[.int .i64 s.kind, .int .i64 s.nd.id, .int .i64 s.nd.kind, sf, sp, .int .i64 s.nd.par, .int .i64 (s.nd.rt 0), .int .i64 (s.nd.rt 1), .int .i64 (s.nd.rt 2), .int .i64 (s.nd.rt 3), .int .i64 (s.nd.rt 4), .int .i64 (s.nd.rt 5), .int .i64 (s.nd.rt 6), .int .i64 (s.nd.rt 7), .bool s.rs] 52)
  have BS := Lib.hid (Blk.new w 52 #[.int .i64 s.kind, .int .i64 s.nd.id, .int .i64 s.nd.kind, sf, sp, .int .i64 s.nd.par, .int .i64 (s.nd.rt 0), .int .i64 (s.nd.rt 1), .int .i64 (s.nd.rt 2), .int .i64 (s.nd.rt 3), .int .i64 (s.nd.rt 4), .int .i64 (s.nd.rt 5), .int .i64 (s.nd.rt 6), .int .i64 (s.nd.rt 7), .bool s.rs])
  have HC := Lib.hid (h.keep fa)
  have FA := Lib.hid fa
  obtain ⟨w1, hw1⟩ : ∃ w1, w1 = w.alloc (.cells #[.int .i64 s.kind, .int .i64 s.nd.id, .int .i64 s.nd.kind, sf, sp, .int .i64 s.nd.par, .int .i64 (s.nd.rt 0), .int .i64 (s.nd.rt 1), .int .i64 (s.nd.rt 2), .int .i64 (s.nd.rt 3), .int .i64 (s.nd.rt 4), .int .i64 (s.nd.rt 5), .int .i64 (s.nd.rt 6), .int .i64 (s.nd.rt 7), .bool s.rs] 52) := ⟨_, rfl⟩
  rw [← hw1] at BS HC FA
  obtain ⟨g, hg⟩ : ∃ g, g = w.heap.size := ⟨_, rfl⟩
  rw [← hg] at BS
  have HG := Lib.hid hg
  have HW := Lib.hid hw1
  have k0 := BS.out.cell 0
  have k1 := BS.out.cell 1
  have k14 := BS.out.cell 14
  simp at k0 k1 k14
  have hgm : g ≠ gm := fun e => HC.out.mp.ne BS.out e.symm
  have HK1 := Lib.hid (fun (W : World) (hf : Fr w1.heap.size [gm] w1 W) => (hf.cell (p := ⟨g, 1, none⟩) BS.out.lt (by simpa using hgm)).trans k1)
  have hlm : gm < w.heap.size := h.mp.lt
  clear h fa hw1 hg
  by_cases hk0 : s.kind < 1
  · have hr := rm_bad (s := s) (.inl hk0)
    rw [hr, if_neg (by decide)]
    clear hr
    go_enter Tryz.func30, Tryz.ntmps30
    go_upto_region 1 with fail
    rw [← HW.out, ← HG.out]
    go_wp2_with fail
    go_ret
    exact ⟨rfl, HC.out, FA.out.mono (by simp) (by simp)⟩
  by_cases hk5 : 5 < s.kind
  · have hr := rm_bad (s := s) (.inr hk5)
    rw [hr, if_neg (by decide)]
    clear hr
    go_enter Tryz.func30, Tryz.ntmps30
    go_upto_region 1 with fail
    rw [← HW.out, ← HG.out]
    go_wp2_with fail
    go_ret
    exact ⟨rfl, HC.out, FA.out.mono (by simp) (by simp)⟩
  have hk1 : 1 ≤ s.kind := by omega
  have hk6 : s.kind ≤ 5 := by omega
  rw [rm_ok ⟨hk1, hk6⟩, if_pos rfl]
  have HD := Lib.hid (fun (W : World) (A : Option Addr) (c : Nat) (hc : CT W gt gm T) (hr : Reads W W.heap.size 1 A 8 ((intsK 8).map (Value.int .i64))) => (by
    have := cdrop_any gt gm T hok s.nd.id A 8 c W.heap.size (intsK 8) W hc rfl (by omega) hr (Nat.le_refl _)
    rw [ofB_all] at this
    exact this : Calls Tryz.prog 58 #[.pointer (some ⟨gt, 0, none⟩), .int .i64 s.nd.id, .slice A 8 c] W (DropOut gt gm (dropQ (nodeQ s.nd.id) T) W)))
  obtain ⟨db, hdb⟩ : ∃ b, b = dropsB s := ⟨_, rfl⟩
  obtain ⟨TK, hTK⟩ : ∃ K, K = keptT s T := ⟨_, rfl⟩
  have HTK := Lib.hid hTK
  have HDB := Lib.hid hdb
  rw [← hTK]
  clear hTK hdb hk0 hk5
  obtain ⟨kd, hkd⟩ : ∃ k, k = s.kind := ⟨_, rfl⟩
  obtain ⟨rs, hrs⟩ : ∃ k, k = s.rs := ⟨_, rfl⟩
  have HKD := Lib.hid hkd
  have HRS := Lib.hid hrs
  rw [← hkd] at k0 hk1 hk6
  rw [← hrs] at k14
  clear hkd hrs
  cases db with
  | true =>
    have HT2 := Lib.hid (show TK = dropQ (nodeQ s.nd.id) T by rw [HTK.out]; unfold keptT; rw [if_pos HDB.out.symm])
    have hor : (kd = 1 ∧ rs = true) ∨ kd = 3 ∨ kd = 2 := by
      have := HDB.out
      unfold dropsB at this
      rw [← HKD.out, ← HRS.out] at this
      simpa using this.symm
    go_enter Tryz.func30, Tryz.ntmps30
    go_upto_region 1 with fail
    rw [← HW.out, ← HG.out]
    go_upto_region 5 with fail
    go_cut [33] (fun s33 wx => s33 = .bool true ∧ wx = w1)
    case first =>
      rcases hor with ⟨rfl, rfl⟩ | rfl | rfl
      · go_wp2_with fail
        go_meet
        exact ⟨rfl, rfl⟩
      · go_wp2_with fail
        go_meet
        exact ⟨rfl, rfl⟩
      · go_wp2_with fail
        go_meet
        exact ⟨rfl, rfl⟩
    case rest =>
      obtain ⟨rfl, hwc⟩ := hcut
      subst hwc
      go_upto_region 6 with fail
      have INV := Lib.hid ((Fr.refl wc.heap.size [gm] wc).drew)
      have INC := Lib.hid (show CT wc.drew gt gm T from ⟨HC.out.bk.drew, HC.out.mp.fr (Fr.refl wc.heap.size [] wc).drew HC.out.mp.lt (by simp)⟩)
      go_region_held3 (fun W => W.cell? ⟨g, 1, none⟩ = some (.int .i64 s.nd.id)) (exact HK1.out _ INV.out)
        ((first | (go_at_call 59; refine (rall_any _).mono ?_; rintro e wv ⟨Av, cv, rfl, hrv, fv⟩; have INV := Lib.hid (INV.out.trans (fv.mono (B' := _) (L' := [gm]) INV.out.size (by simp))); have INC := Lib.hid (INC.out.keep fv); have HRV := Lib.hid hrv; clear fv hrv) | (go_at_call 58; refine (HD.out _ _ _ INC.out HRV.out).mono ?_; rintro e wd ⟨rfl, hcd, fd⟩; have INV := Lib.hid (INV.out.trans (fd.mono (B' := _) (L' := [gm]) INV.out.size (by simp))); have INC2 := Lib.hid hcd; clear fd hcd)))
      all_goals
        go_wp2_with fail
        go_ret
        refine ⟨rfl, ?_, (FA.out.mono (by simp) (by simp)).trans (INV.out.mono FA.out.size (by simp))⟩
        rw [HT2.out]
        exact INC2.out
  | false =>
    have HT2 := Lib.hid (show TK = T by rw [HTK.out]; unfold keptT; rw [if_neg (by rw [← HDB.out]; simp)])
    have hno : ¬ ((kd = 1 ∧ rs = true) ∨ kd = 3 ∨ kd = 2) := by
      have := HDB.out
      unfold dropsB at this
      rw [← HKD.out, ← HRS.out] at this
      intro hc
      have h2 : ((decide (kd = 1) && rs) || (decide (kd = 3) || decide (kd = 2))) = true := by simpa using hc
      rw [← this] at h2
      cases h2
    have hkk : (kd = 1 ∧ rs = false) ∨ kd = 4 ∨ kd = 5 := by
      cases rs <;> simp at hno ⊢ <;> omega
    clear hno
    go_enter Tryz.func30, Tryz.ntmps30
    go_upto_region 1 with fail
    rw [← HW.out, ← HG.out]
    go_upto_region 5 with fail
    go_cut [33] (fun s33 wx => s33 = .bool false ∧ wx = w1)
    case first =>
      rcases hkk with ⟨rfl, rfl⟩ | rfl | rfl
      · go_wp2_with fail
        go_meet
        exact ⟨rfl, rfl⟩
      · go_wp2_with fail
        go_meet
        exact ⟨rfl, rfl⟩
      · go_wp2_with fail
        go_meet
        exact ⟨rfl, rfl⟩
    case rest =>
      obtain ⟨rfl, hwc⟩ := hcut
      subst hwc
      go_wp2_with fail
      go_ret
      exact ⟨rfl, by rw [HT2.out]; exact HC.out, FA.out.mono (by simp) (by simp)⟩
end Go.Proofs.YtfakgidimekikaaGreat
namespace Go.Proofs.YtfakgidimekikaaGreat
open Go.RowKit Go.Fb
set_option linter.unusedVariables false
/-- What is kept behind steps. -/
def kepS (T : Pk → CV) (s : Stp) : Pk → CV := if stpE s = 0 then keptT s T else T
def kepL (T : Pk → CV) (P : List Stp) : Pk → CV := P.foldl kepS T
theorem kepL_snoc (T : Pk → CV) (P : List Stp) (s : Stp) : kepL T (P ++ [s]) = kepS (kepL T P) s := by unfold kepL; rw [List.foldl_append]; rfl
theorem TOk.kepS {T : Pk → CV} (h : TOk T) (s : Stp) : TOk (kepS T s) := by
  unfold Go.Proofs.YtfakgidimekikaaGreat.kepS
  split
  · exact h.kept s
  · exact h
theorem TOk.kepL : ∀ {P : List Stp} {T : Pk → CV}, TOk T → TOk (kepL T P)
  | [], _, h => h
  | s :: P, T, h => TOk.kepL (P := P) (h.kepS s)
/-- What a plan leaves. -/
def RmApOut (gt gm : Nat) (T : Pk → CV) (P : List Stp) (r : Int × Nat × List Nd) (w : World) (e : Ending) (w' : World) : Prop :=
  (r.1 ≠ 0 ∧ e = .returned (.tuple #[.slice none 0 0, .int .i64 (r.2.1 : Int), .int .i64 r.1]) ∧ CT w' gt gm T ∧ Fr w.heap.size [] w w') ∨
  (r.1 = 0 ∧ ∃ A c n M, e = .returned (.tuple #[.slice A n c, .int .i64 0, .int .i64 0]) ∧ Nmd w.heap.size w' A n c M ∧ fstN M = r.2.2 ∧ RightG r.2.2 ∧ CT w' gt gm (kepL T P) ∧ Fr w.heap.size [gm] w w')
set_option maxRecDepth 100000 in
theorem rmapply_nil (L P : Value) (w : World) : Calls Tryz.prog 25 #[.pointer none, L, P] w fun e w' => e = .returned (.tuple #[.slice none 0 0, .int .i64 0, .int .i64 1]) ∧ w = w' := by
  go_enter Tryz.func25, Tryz.ntmps25
  go_wp2_with fail
  go_ret3
  exact ⟨rfl, rfl⟩
set_option maxRecDepth 100000 in
theorem rmstep_nil (V : Array Value) (w : World) : Calls Tryz.prog 30 #[.pointer none, .agg V] w fun e w' => e = .returned (.int .i64 1) ∧ Fr w.heap.size [] w w' := by
  go_enter Tryz.func30, Tryz.ntmps30
  go_wp2_with fail
  go_ret
  exact ⟨rfl, (Fr.refl _ _ _).alloc (Nat.le_refl _) _⟩
set_option maxRecDepth 100000 in
set_option maxHeartbeats 4000000 in
theorem rmapply_any (gt gm : Nat) (T : Pk → CV) (hok : TOk T) (A A2 : Option Addr) (c c2 B n n2 : Nat) (M : List Ndm) (S : List Stm) (w : World) (hct : CT w gt gm T) (h : Nds w B A n M) (hB : B ≤ w.heap.size) (hs : Small M) (hS : Sts w B A2 n2 S) (hss : SmallS S) (hn2 : n2 ≤ 1000000) (hBm : B ≤ gm) :
    Calls Tryz.prog 25 #[.pointer (some ⟨gt, 0, none⟩), .slice A n c, .slice A2 n2 c2] w (RmApOut gt gm T (fstS S) (applyN (fstN M) (fstS S)) w) := by
  obtain ⟨P, hP⟩ : ∃ P, P = fstS S := ⟨_, rfl⟩
  obtain ⟨r, hr⟩ : ∃ r, r = applyN (fstN M) (fstS S) := ⟨_, rfl⟩
  have HAP := Lib.hid (by rw [hr]; exact papply_any A A2 c c2 B n n2 M S w h hB hs hS hss hn2 : Calls Tryz.prog 48 #[.slice A n c, .slice A2 n2 c2] w (ApOut r w))
  rw [← hr, ← hP]
  have HP := Lib.hid hP
  have HNU := Lib.hid hS.num
  have HST := Lib.hid hS
  have HCT := Lib.hid hct
  have HOK := Lib.hid hok
  have hlm := hct.mp.lt
  clear h hs hS hss hct hr hP hok
  go_enter Tryz.func25, Tryz.ntmps25
  go_wp2_with fail
  refine HAP.out.mono ?_
  rintro e w1 (⟨e1, rfl, f1⟩ | ⟨e1, A5, c5, n5, M5, rfl, hn5, hf5, hr5, f1⟩)
  · have E1 := Lib.hid e1
    have hcb := kd_ne e1
    have hcn : (r.1 != 0) = true := by simpa using e1
    have HC1 := Lib.hid (HCT.out.keep f1)
    have F1 := Lib.hid f1
    clear e1 f1 HAP
    go_wp2_with fail
    go_ret3
    exact .inl ⟨E1.out, rfl, HC1.out, F1.out⟩
  have HC1 := Lib.hid (HCT.out.keep f1)
  have F1 := Lib.hid f1
  have HN5 := Lib.hid hn5
  have HF5 := Lib.hid hf5
  have HR5 := Lib.hid hr5
  have E1 := Lib.hid e1
  have hs1 := f1.size
  have hlm1 : gm < w1.heap.size := by omega
  clear e1 f1 hn5 hf5 hr5 HAP HCT
  go_wp2_with fail
  go_loopg [13, 29] n2 (fun g s13 s29 wr => ∃ k : Nat, k ≤ n2 ∧ g = n2 - k ∧ s29 = .int .i64 k ∧ (s13 = undef ∨ ∃ a, s13 = .pointer a) ∧ RowKit.Hid (CT wr gt gm (kepL T (P.take k))) ∧ RowKit.Hid (Fr w1.heap.size [gm] w1 wr))
  case atStart => exact ⟨0, Nat.zero_le _, rfl, rfl, .inl rfl, HC1, Lib.hid (Fr.refl _ _ _)⟩
  case round =>
    clear HC1
    obtain ⟨k, hk, rfl, rfl, h13, C, F⟩ := hrel
    by_cases hkn : k < n2
    · have hki : (k : Int) < (n2 : Int) := by omega
      have hk0 : (0 : Int) ≤ (k : Int) := by omega
      obtain ⟨m, hx⟩ : ∃ m, S[k]? = some m := ⟨_, List.getElem?_eq_getElem (by rw [← HNU.out]; exact hkn)⟩
      have HSW := (HST.out.frw F1.out hB (by simp)).frw F.out (by omega) (by simp; omega)
      obtain ⟨b1, o1, rfl, hb1, hc1⟩ := HSW.get hx
      have hin := HSW.inn m (List.mem_of_getElem? hx)
      have HTK := Lib.hid (show kepL T (P.take (k + 1)) = kepS (kepL T (P.take k)) m.1 by
        have : P[k]? = some m.1 := by rw [HP.out]; simp [fstS, hx]
        rw [List.take_add_one, this]
        exact kepL_snoc _ _ _)
      obtain ⟨⟨kd, y, rs⟩, sf, sp⟩ := m
      simp only at hin HTK
      obtain ⟨⟨Af, cf, hf1, hf2⟩, ⟨Ap, cp, hp1, hp2⟩⟩ := hin
      simp only at hf1 hp1 hf2 hp2
      subst hf1
      subst hp1
      clear hf2 hp2
      obtain ⟨nf, hnf⟩ : ∃ z, z = y.fr.length := ⟨_, rfl⟩
      obtain ⟨np, hnp⟩ : ∃ z, z = y.pg.length := ⟨_, rfl⟩
      rw [← hnf, ← hnp] at hc1
      have p0 := hc1 0 (.int .i64 kd) rfl
      have p1 := hc1 1 (.int .i64 y.id) rfl
      have p2 := hc1 2 (.int .i64 y.kind) rfl
      have p3 := hc1 3 (.slice Af nf cf) rfl
      have p4 := hc1 4 (.slice Ap np cp) rfl
      have p5 := hc1 5 (.int .i64 y.par) rfl
      have p6 := hc1 6 (.int .i64 (y.rt 0)) rfl
      have p7 := hc1 7 (.int .i64 (y.rt 1)) rfl
      have p8 := hc1 8 (.int .i64 (y.rt 2)) rfl
      have p9 := hc1 9 (.int .i64 (y.rt 3)) rfl
      have p10 := hc1 10 (.int .i64 (y.rt 4)) rfl
      have p11 := hc1 11 (.int .i64 (y.rt 5)) rfl
      have p12 := hc1 12 (.int .i64 (y.rt 6)) rfl
      have p13 := hc1 13 (.int .i64 (y.rt 7)) rfl
      have p14 := hc1 14 (.bool rs) rfl
      simp only [Nat.add_zero] at p0
      clear hc1 hx HSW hnf hnp
      have fa := (Fr.refl wr.heap.size [] wr).alloc (Nat.le_refl _) (.cells (stA kd y rs (.slice Af nf cf) (.slice Ap np cp)) 52)
      have BX := Lib.hid (Blk.new wr 52 (stA kd y rs (.slice Af nf cf) (.slice Ap np cp)))
      have CA := C.out.keep fa
      have HFA := Lib.hid (F.out.trans (fa.mono (B' := w1.heap.size) (L' := [gm]) F.out.size (by simp)))
      have HSS := Lib.hid (rmstep_any gt gm (kepL T (P.take k)) (TOk.kepL HOK.out) ⟨kd, y, rs⟩ (.slice Af nf cf) (.slice Ap np cp) (wr.alloc (.cells (stA kd y rs (.slice Af nf cf) (.slice Ap np cp)) 52)) CA)
      clear fa CA hb1
      go_upto_region 9 with fail
      clear p0 p1 p2 p3 p4 p5 p6 p7 p8 p9 p10 p11 p12 p13 p14
      generalize wr.alloc (.cells (stA kd y rs (.slice Af nf cf) (.slice Ap np cp)) 52) = wa at *
      generalize wr.heap.size = gx at BX
      have q0 := BX.out.cell 0
      have q1 := BX.out.cell 1
      have q2 := BX.out.cell 2
      have q3 := BX.out.cell 3
      have q4 := BX.out.cell 4
      have q5 := BX.out.cell 5
      have q6 := BX.out.cell 6
      have q7 := BX.out.cell 7
      have q8 := BX.out.cell 8
      have q9 := BX.out.cell 9
      have q10 := BX.out.cell 10
      have q11 := BX.out.cell 11
      have q12 := BX.out.cell 12
      have q13 := BX.out.cell 13
      have q14 := BX.out.cell 14
      simp at q0 q1 q2 q3 q4 q5 q6 q7 q8 q9 q10 q11 q12 q13 q14
      go_wp2_with fail
      refine HSS.out.mono ?_
      rintro e w2 ⟨rfl, hc2, f2⟩
      have HC2 := Lib.hid (show CT w2 gt gm (kepL T (P.take (k + 1))) by rw [HTK.out]; exact hc2)
      have F2 := Lib.hid (HFA.out.trans (f2.mono (B' := w1.heap.size) (L' := [gm]) HFA.out.size (by simp)))
      clear hc2 f2 HSS HTK HFA
      go_wp2_with fail
      go_roundg (n2 - (k + 1))
      case measure => omega
      case rel => exact ⟨k + 1, by omega, rfl, by go_num, .inr ⟨_, rfl⟩, HC2, F2⟩
    · obtain rfl : n2 = k := by omega
      have hC := C.out
      rw [List.take_of_length_le (by rw [HP.out, HNU.out]; simp [fstS])] at hC
      have HC9 := Lib.hid hC
      clear hC
      go_wp2_with fail
      go_ret3
      exact .inr ⟨E1.out, A5, c5, n5, M5, rfl, HN5.out.frd F.out (by simp; omega), HF5.out, HR5.out, HC9.out, (F1.out.mono (by simp) (by simp)).trans (F.out.mono hs1 (by simp))⟩
end Go.Proofs.YtfakgidimekikaaGreat
namespace Go.Proofs.YtfakgidimekikaaGreat
open Go.RowKit Go.Fb
set_option linter.unusedVariables false
set_option maxRecDepth 100000 in
set_option maxHeartbeats 1000000 in
theorem eindex_any (F : FuncId) (cap : Array Value) (p : (Nat → Int) → Bool) (A : Option Addr) (c B n : Nat) (l : List (Nat → Int)) (w : World) (hent : ∀ (args : Array Value) (w : World), (callFunc F args).run Tryz.prog w = .ok (.enter F args) w)
    (hF : ∀ (x : Nat → Int) (w' : World), x ∈ l → Fr w.heap.size [] w w' → Calls Tryz.prog F (#[.agg #[.int .i64 (x 0), .int .i64 (x 1), .int .i64 (x 2), .int .i64 (x 3), .int .i64 (x 4), .int .i64 (x 5)]] ++ cap) w' fun e w'' => e = .returned (.bool (p x)) ∧ Fr w'.heap.size [] w' w'')
    (hn : n = l.length) (hm : n ≤ 1000000) (hr : Reads w B 6 A n (cellsE l)) (hB : B ≤ w.heap.size) :
    Calls Tryz.prog 86 #[.slice A n c, .func (.func F) #[] cap] w fun e w' => ∃ i : Int, e = .returned (.int .i64 i) ∧ decide (0 ≤ i) = l.any p ∧ Fr w.heap.size [] w w' := by
  have HF := Lib.hid hF
  have HR := Lib.hid hr
  have HN := Lib.hid hn
  clear hF hr hn
  go_enter Tryz.func86, Tryz.ntmps86
  go_wp2_with fail
  go_loopg [8] n (fun g s8 wr => ∃ k : Nat, k ≤ n ∧ g = n - k ∧ s8 = .int .i64 k ∧ RowKit.Hid (∀ j y, j < k → l[j]? = some y → p y = false) ∧ RowKit.Hid (Fr w.heap.size [] w wr))
  case atStart => exact ⟨0, Nat.zero_le _, rfl, rfl, Lib.hid (fun j y h => absurd h (by omega)), Lib.hid (Fr.refl _ _ _)⟩
  case round =>
    obtain ⟨k, hk, rfl, rfl, HP, FR⟩ := hrel
    by_cases hkn : k < n
    · have hki : (k : Int) < (n : Int) := by omega
      have hk0 : (0 : Int) ≤ (k : Int) := by omega
      obtain ⟨x, hx⟩ : ∃ x, l[k]? = some x := ⟨_, List.getElem?_eq_getElem (by rw [← HN.out]; exact hkn)⟩
      obtain ⟨b, off, rfl, hb, hc⟩ := reads_ent (by rw [← HN.out]; exact HR.out.fr FR.out hB (by simp)) hx
      have p0 := hc 0 (by omega)
      have p1 := hc 1 (by omega)
      have p2 := hc 2 (by omega)
      have p3 := hc 3 (by omega)
      have p4 := hc 4 (by omega)
      have p5 := hc 5 (by omega)
      simp only [Nat.add_zero, ← Nat.add_assoc] at p0 p1 p2 p3 p4 p5
      have HC := HF.out x wr (List.mem_of_getElem? hx) FR.out
      have HX := Lib.hid hx
      clear hc hx
      obtain ⟨bb, hbb⟩ : ∃ b, b = p x := ⟨_, rfl⟩
      rw [← hbb] at HC
      have HC := Lib.hid HC
      have HPX := Lib.hid hbb
      clear hbb
      cases bb with
      | true =>
        go_wp2_with fail
        refine HC.out.mono ?_
        rintro e w2 ⟨rfl, f2⟩
        have F2 := Lib.hid (FR.out.trans (f2.mono (B' := w.heap.size) (L' := []) FR.out.size (by simp)))
        clear f2 HC
        go_wp2_with fail
        go_ret
        refine ⟨k, rfl, ?_, F2.out⟩
        rw [List.any_eq_true.2 ⟨x, List.mem_of_getElem? HX.out, HPX.out.symm⟩]
        simp
      | false =>
        go_wp2_with fail
        refine HC.out.mono ?_
        rintro e w2 ⟨rfl, f2⟩
        have F2 := Lib.hid (FR.out.trans (f2.mono (B' := w.heap.size) (L' := []) FR.out.size (by simp)))
        clear f2 HC
        go_wp2_with fail
        go_roundg (n - (k + 1))
        case measure => omega
        case rel =>
          refine ⟨k + 1, by omega, rfl, by go_num, Lib.hid fun j y hj hy => ?_, F2⟩
          rcases Nat.lt_or_ge j k with h | h
          · exact HP.out j y h hy
          · have : j = k := by omega
            subst this
            rw [HX.out] at hy
            injection hy with hy
            rw [← hy]
            exact HPX.out.symm
    · obtain rfl : k = n := by omega
      go_wp2_with fail
      go_ret
      refine ⟨-1, rfl, ?_, FR.out⟩
      symm
      rw [show decide ((0 : Int) ≤ -1) = false by simp, List.any_eq_false]
      intro x hx
      obtain ⟨j, hj, rfl⟩ := List.mem_iff_getElem.1 hx
      rw [HP.out j _ (by rw [HN.out]; exact hj) (List.getElem?_eq_getElem hj)]
      simp
set_option maxRecDepth 100000 in
theorem econtains_any (F : FuncId) (cap : Array Value) (p : (Nat → Int) → Bool) (A : Option Addr) (c B n : Nat) (l : List (Nat → Int)) (w : World) (hent : ∀ (args : Array Value) (w : World), (callFunc F args).run Tryz.prog w = .ok (.enter F args) w)
    (hF : ∀ (x : Nat → Int) (w' : World), x ∈ l → Fr w.heap.size [] w w' → Calls Tryz.prog F (#[.agg #[.int .i64 (x 0), .int .i64 (x 1), .int .i64 (x 2), .int .i64 (x 3), .int .i64 (x 4), .int .i64 (x 5)]] ++ cap) w' fun e w'' => e = .returned (.bool (p x)) ∧ Fr w'.heap.size [] w' w'')
    (hn : n = l.length) (hm : n ≤ 1000000) (hr : Reads w B 6 A n (cellsE l)) (hB : B ≤ w.heap.size) :
    Calls Tryz.prog 60 #[.slice A n c, .func (.func F) #[] cap] w fun e w' => e = .returned (.bool (l.any p)) ∧ Fr w.heap.size [] w w' := by
  have H := Lib.hid (eindex_any F cap p A c B n l w hent hF hn hm hr hB)
  obtain ⟨b, hb⟩ : ∃ b, b = l.any p := ⟨_, rfl⟩
  rw [← hb] at H ⊢
  clear hF hn hr hb
  go_enter Tryz.func60, Tryz.ntmps60
  go_wp2_with fail
  refine H.out.mono ?_
  rintro e w1 ⟨i, rfl, hi, f1⟩
  have F1 := Lib.hid f1
  have HI := Lib.hid hi
  clear hi f1 H
  go_wp2_with fail
  go_ret
  exact ⟨by rw [← HI.out]; rfl, F1.out⟩
/-- Is an entry kept for no operator? -/
def badE (L : List Nd) (x : Nat → Int) : Bool := !(findN L (x 0)).isSome || !decide ((getN L (x 0)).kind = 1)
def fitsT (L : List Nd) (T : Pk → CV) : Bool := !((allT T).any (badE L))
set_option maxRecDepth 100000 in
set_option maxHeartbeats 4000000 in
theorem fits1_any (gl : Nat) (A : Option Addr) (c B n : Nat) (M : List Ndm) (x : Nat → Int) (w : World) (hb : Blk w gl 34 #[.slice A n c]) (h : Nds w B A n M) (hB : B ≤ w.heap.size) (hs : Small M) :
    Calls Tryz.prog 61 #[.agg #[.int .i64 (x 0), .int .i64 (x 1), .int .i64 (x 2), .int .i64 (x 3), .int .i64 (x 4), .int .i64 (x 5)], .pointer (some ⟨gl, 0, none⟩)] w fun e w' => e = .returned (.bool (badE (fstN M) x)) ∧ Fr w.heap.size [] w w' := by
  have fa := (Fr.refl w.heap.size [] w).alloc (Nat.le_refl _) (.cells #[.int .i64 (x 0), .int .i64 (x 1), .int .i64 (x 2), .int .i64 (x 3), .int .i64 (x 4), .int .i64 (x 5)] 97)
  have BX := Lib.hid (Blk.new w 97 #[.int .i64 (x 0), .int .i64 (x 1), .int .i64 (x 2), .int .i64 (x 3), .int .i64 (x 4), .int .i64 (x 5)])
  have BL := Lib.hid (hb.fr fa hb.lt (by simp))
  have HFD := Lib.hid (find_any (x 0) A c B n M (w.alloc (.cells #[.int .i64 (x 0), .int .i64 (x 1), .int .i64 (x 2), .int .i64 (x 3), .int .i64 (x 4), .int .i64 (x 5)] 97)) (h.frw fa hB (by simp)) (by simp; omega) hs)
  have FA := Lib.hid fa
  obtain ⟨v, hv⟩ : ∃ v, v = badE (fstN M) x := ⟨_, rfl⟩
  have HV := Lib.hid hv
  rw [← hv]
  clear hb h hs fa hv
  go_enter Tryz.func61, Tryz.ntmps61
  go_upto_region 1 with fail
  generalize w.alloc _ = w1 at *
  generalize w.heap.size = g at BX ⊢
  have x0 := BX.out.cell 0
  have l0 := BL.out.cell 0
  simp at x0 l0
  go_wp2_with fail
  refine HFD.out.mono ?_
  intro e w2 hq
  obtain ⟨y, sf, sp, hy, rfl, hin, f2⟩ := hq.get
  obtain ⟨⟨Af, cf, h1, _⟩, ⟨Ap, cp, h2, _⟩⟩ := hin
  simp only at h1 h2
  subst h1
  subst h2
  generalize y.fr.length = nf
  generalize y.pg.length = np
  have HY := Lib.hid hy
  have F2 := Lib.hid (FA.out.trans (f2.mono (B' := w.heap.size) (L' := []) FA.out.size (by simp)))
  have HBE := Lib.hid (show v = (!(findN (M.map (·.1)) (x 0)).isSome || !decide (y.kind = 1)) by rw [HV.out, hy]; rfl)
  clear hq hy f2 HFD
  cases hs : (findN (M.map (·.1)) (x 0)).isSome with
  | false =>
    rw [hs] at HBE
    have HBE := Lib.hid (show v = true from HBE.out)
    clear hs
    go_wp2_with fail
    go_ret
    exact ⟨by rw [HBE.out]; rfl, F2.out.alloc F2.out.size _⟩
  | true =>
    rw [hs] at HBE
    have HBE := Lib.hid (show v = !decide (y.kind = 1) from HBE.out)
    clear hs
    go_wp2_with fail
    go_ret
    refine ⟨?_, F2.out.alloc F2.out.size _⟩
    rw [HBE.out]
    rfl
set_option maxRecDepth 100000 in
set_option maxHeartbeats 4000000 in
theorem rmfits_any (gt gm : Nat) (T : Pk → CV) (hok : TOk T) (A : Option Addr) (c B n : Nat) (M : List Ndm) (w : World) (hct : CT w gt gm T) (h : Nds w B A n M) (hB : B ≤ w.heap.size) (hs : Small M) :
    Calls Tryz.prog 31 #[.pointer (some ⟨gt, 0, none⟩), .slice A n c] w fun e w' => e = .returned (.bool (fitsT (fstN M) T)) ∧ Fr w.heap.size [] w w' := by
  have fa := (Fr.refl w.heap.size [] w).alloc (Nat.le_refl _) (.cells #[.slice A n c] 34)
  have hb := Blk.new w 34 #[.slice A n c]
  have HCA := Lib.hid (call_any gt gm T hok (w.alloc (.cells #[.slice A n c] 34)) (hct.keep fa))
  obtain ⟨l, hl⟩ : ∃ l, l = allT T := ⟨_, rfl⟩
  have hlen : l.length ≤ 512 := by
    rw [hl]
    unfold allT someE someT
    rw [List.length_map]
    refine Nat.le_trans (List.length_filter_le _ _) ?_
    unfold plcs
    simp
  rw [← hl] at HCA
  have HN := h.frw fa hB (by simp)
  have hs1 : w.heap.size < (w.alloc (.cells #[.slice A n c] 34)).heap.size := by simp
  obtain ⟨w1, hw1⟩ : ∃ w1, w1 = w.alloc (.cells #[.slice A n c] 34) := ⟨_, rfl⟩
  rw [← hw1] at HCA fa hb HN hs1
  have HEC := Lib.hid (fun (W : World) (hf : Fr w1.heap.size [] w1 W) (Al : Option Addr) (cl : Nat) (hr : Reads W W.heap.size 6 Al l.length (cellsE l)) => econtains_any 61 #[.pointer (some ⟨w.heap.size, 0, none⟩)] (badE (fstN M)) Al cl W.heap.size l.length l W (enters_of Tryz.func61 (by kernel_rfl) rfl) (fun x w' _ hf2 => by
    have hff := hf.trans (hf2.mono (B' := w1.heap.size) (L' := []) hf.size (by simp))
    exact fits1_any w.heap.size A c B n M x w' (hb.fr hff hb.lt (by simp)) (HN.frw hff (by omega) (by simp)) (by have := hff.size; omega) hs) rfl (by omega) hr (Nat.le_refl _))
  obtain ⟨v, hv⟩ : ∃ v, v = l.any (badE (fstN M)) := ⟨_, rfl⟩
  rw [← hv] at HEC
  have HV := Lib.hid (show fitsT (fstN M) T = !v by rw [hv, hl]; rfl)
  have HW := Lib.hid hw1
  have FA := Lib.hid fa
  rw [HV.out]
  clear hct h hs hl hw1 hv HN fa hb
  go_enter Tryz.func31, Tryz.ntmps31
  go_upto_region 1 with fail
  rw [← HW.out]
  go_wp2_with fail
  refine HCA.out.mono ?_
  rintro e w2 ⟨Al, cl, rfl, hr2, _, _, f2⟩
  have F2 := Lib.hid (FA.out.trans (f2.mono (B' := w.heap.size) (L' := []) FA.out.size (by simp)))
  have HE2 := Lib.hid (HEC.out w2 f2 Al cl hr2)
  clear hr2 f2 HCA HEC
  go_wp2_with fail
  refine HE2.out.mono ?_
  rintro e w3 ⟨rfl, f3⟩
  have F3 := Lib.hid (F2.out.trans (f3.mono (B' := w.heap.size) (L' := []) F2.out.size (by simp)))
  clear f3 HE2
  go_wp2_with fail
  go_ret
  exact ⟨rfl, F3.out⟩
end Go.Proofs.YtfakgidimekikaaGreat
namespace Go.Proofs.YtfakgidimekikaaGreat
open Go.RowKit Go.Fb
set_option linter.unusedVariables false
theorem fold_from : ∀ (l : List (Nat → Int)) (T : Pk → CV) (p : Pk), l.foldl putT T p ≠ c0 → T p ≠ c0 ∨ p ∈ l.map entP
  | [], T, p, h => .inl h
  | x :: l, T, p, h => by
    rcases fold_from l (putT T x) p h with h | h
    · unfold putT updT at h
      by_cases e : p = entP x
      · exact .inr (by rw [e]; simp)
      · rw [if_neg e] at h; exact .inl h
    · exact .inr (by rw [List.map_cons]; exact List.mem_cons_of_mem _ h)
theorem someT_nodup (q : Pk → Bool) (T : Pk → CV) : (someT q T).Nodup := (someT_rank q T).imp (fun h e => by subst e; omega)
theorem allT_len (l : List (Nat → Int)) : (allT (tabL l)).length ≤ l.length := by
  unfold allT someE
  rw [List.length_map]
  have := sub_len (A := someT (fun _ => true) (tabL l)) (B := l.map entP) (someT_nodup _ _) (fun p hp => (fold_from l _ p (someT_mem.1 hp).2.1).resolve_left (fun h => h rfl))
  rwa [List.length_map] at this
theorem kepS_eq (T : Pk → CV) (s : Stp) : kepS T s = keptT s T := by
  unfold kepS stpE
  by_cases h : s.kind < 1 ∨ 5 < s.kind
  · rw [if_pos h, if_neg (by decide)]
    unfold keptT
    rw [if_neg]
    unfold dropsB
    intro hc
    simp at hc
    omega
  · rw [if_neg h]; rfl
theorem keptT_at (s : Stp) (T : Pk → CV) (p : Pk) : keptT s T p = if dropsB s = true ∧ p.1 = s.nd.id then c0 else T p := by
  unfold keptT dropQ nodeQ
  by_cases h : dropsB s = true
  · by_cases e : p.1 = s.nd.id <;> simp [h, e]
  · simp [h]
theorem kept_from {s : Stp} {T : Pk → CV} {p : Pk} (h : keptT s T p ≠ c0) : T p ≠ c0 := fun e => h (by rw [keptT_at, e]; split <;> rfl)
theorem kepL_from : ∀ (P : List Stp) {T : Pk → CV} {p : Pk}, kepL T P p ≠ c0 → T p ≠ c0
  | [], _, _, h => h
  | s :: P, T, p, h => by
    have := kepL_from P (T := kepS T s) h
    rw [kepS_eq] at this
    exact kept_from this
theorem kepL_len (T : Pk → CV) (P : List Stp) : (allT (kepL T P)).length ≤ (allT T).length := by
  unfold allT someE
  rw [List.length_map, List.length_map]
  refine sub_len (someT_nodup _ _) fun p hp => ?_
  obtain ⟨h1, h2, h3⟩ := someT_mem.1 hp
  exact someT_mem.2 ⟨h1, kepL_from P h2, h3⟩
theorem kepL_route : ∀ {P : List Stp} {T : Pk → CV}, (∀ s ∈ P, s.kind = 4) → kepL T P = T
  | [], _, _ => rfl
  | s :: P, T, h => by
    have h4 := h s (by simp)
    have : kepS T s = T := by
      rw [kepS_eq]
      unfold keptT dropsB
      simp [h4]
    unfold kepL
    rw [List.foldl_cons, this]
    exact kepL_route fun t ht => h t (List.mem_cons_of_mem _ ht)
/-- What is kept of entries behind steps, as the statement has it. -/
def keptE (l : List (Nat → Int)) (s : Stp) : List (Nat → Int) := if dropsB s = true then l.filter (fun x => decide (x 0 ≠ s.nd.id)) else l
def keptL (l : List (Nat → Int)) (P : List Stp) : List (Nat → Int) := P.foldl keptE l
theorem keptL_snoc (l : List (Nat → Int)) (P : List Stp) (s : Stp) : keptL l (P ++ [s]) = keptE (keptL l P) s := by unfold keptL; rw [List.foldl_append]; rfl
theorem keptE_all (s : Stp) (T : Pk → CV) : keptE (allT T) s = allT (keptT s T) := by
  unfold keptE keptT
  by_cases h : dropsB s = true
  · rw [if_pos h, if_pos h]
    unfold allT someE someT
    rw [List.filter_map, List.filter_filter]
    have : (plcs.filter fun p => ((fun x : Nat → Int => decide (x 0 ≠ s.nd.id)) ∘ fun p => entF p (T p)) p && (decide (T p ≠ c0) && true)) = plcs.filter fun p => decide (dropQ (nodeQ s.nd.id) T p ≠ c0) && true := by
      congr 1
      funext p
      unfold dropQ nodeQ
      by_cases e : p.1 = s.nd.id <;> simp [entF, e]
    rw [this]
    refine List.map_congr_left fun p hp => ?_
    have hp := (List.mem_filter.1 hp).2
    unfold dropQ at hp ⊢
    by_cases e : nodeQ s.nd.id p = true
    · rw [if_pos e] at hp
      have hp2 := ((Bool.and_eq_true _ _).mp hp).1
      exact absurd rfl (of_decide_eq_true hp2)
    · rw [if_neg e]
  · rw [if_neg h, if_neg h]
theorem keptL_all : ∀ (P : List Stp) (T : Pk → CV), keptL (allT T) P = allT (kepL T P)
  | [], _ => by unfold keptL kepL; rw [List.foldl_nil, List.foldl_nil]
  | s :: P, T => by
    unfold keptL kepL
    rw [List.foldl_cons, List.foldl_cons, keptE_all, kepS_eq]
    exact keptL_all P (keptT s T)
theorem idle_all {L : List Nd} {P : List Stp} (h : idleN L P = true) : (applyN L P).1 = 0 ∧ ∀ s ∈ P, s.kind = 4 := by
  unfold idleN at h
  rw [Bool.and_eq_true, decide_eq_true_eq] at h
  refine ⟨h.1, fun s hs => ?_⟩
  have h2 : (P.any fun s => !decide (s.kind = 4)) = false := by simpa using h.2
  rw [List.any_eq_false] at h2
  simpa using h2 s hs
theorem step_kind {L : List Nd} {s : Stp} (h : (stepN L s).1 = 0) : 1 ≤ s.kind ∧ s.kind ≤ 5 := by
  unfold stepN at h
  by_cases hc : checkN L ≠ 0
  · rw [if_pos hc] at h; cases h
  rw [if_neg hc] at h
  by_cases hk : s.kind < 1 ∨ 5 < s.kind
  · rw [if_pos hk] at h; cases h
  omega
theorem go_kinds : ∀ (P : List Stp) (i : Nat) (L : List Nd), (goN i L P).1 = 0 → ∀ s ∈ P, 1 ≤ s.kind ∧ s.kind ≤ 5
  | [], _, _, _ => by simp
  | s :: P, i, L, h => by
    unfold goN at h
    by_cases c : (stepN L s).1 ≠ 0
    · rw [if_pos c] at h; exact absurd h c
    · rw [if_neg c] at h
      intro t ht
      rcases List.mem_cons.1 ht with e | ht
      · rw [e]; exact step_kind (Decidable.not_not.1 c)
      · exact go_kinds P (i + 1) _ h t ht
theorem apply_kinds {L : List Nd} {P : List Stp} (h : (applyN L P).1 = 0) : ∀ s ∈ P, 1 ≤ s.kind ∧ s.kind ≤ 5 := by
  unfold applyN at h
  by_cases hc : checkN L ≠ 0
  · rw [if_pos hc] at h; cases h
  rw [if_neg hc] at h
  by_cases hk : P.length < 1 ∨ 6 < P.length
  · rw [if_pos hk] at h; cases h
  rw [if_neg hk] at h
  exact go_kinds P 0 L h
/-- Is each entry kept for an operator of the graph? -/
def FitP (L : List Nd) (T : Pk → CV) : Prop := ∀ p, T p ≠ c0 → ∃ n, findN L p.1 = some n ∧ n.kind = 1
theorem badE_no {L : List Nd} {x : Nat → Int} : badE L x = false ↔ ∃ n, findN L (x 0) = some n ∧ n.kind = 1 := by
  unfold badE getN
  cases h : findN L (x 0) with
  | none => simp
  | some n => simp
theorem fitsT_iff {L : List Nd} {T : Pk → CV} (hok : TOk T) : fitsT L T = true ↔ FitP L T := by
  unfold fitsT FitP
  rw [Bool.not_eq_true', List.any_eq_false]
  constructor
  · intro h p hp
    have := h (entF p (T p)) (by unfold allT someE; exact List.mem_map.2 ⟨p, someT_mem.2 ⟨(hok p hp).1, hp, rfl⟩, rfl⟩)
    exact badE_no.1 (by simpa using this)
  · intro h x hx
    unfold allT someE at hx
    obtain ⟨p, hp, rfl⟩ := List.mem_map.1 hx
    have : badE L (entF p (T p)) = false := badE_no.2 (h p (someT_mem.1 hp).2.1)
    simp [this]
theorem kind_upd {N : List Nd} {id : Int} {f : Nd → Nd} (hf : ∀ n, (f n).id = n.id) (hk : ∀ n, (f n).kind = n.kind) {k : Int} {n : Nd} (h : findN N k = some n) : ∃ m, findN (updN N id f) k = some m ∧ m.kind = n.kind := by
  unfold findN updN at *
  rw [List.find?_map]
  have : ((fun x : Nd => decide (x.id = k)) ∘ fun n => if n.id = id then f n else n) = fun x : Nd => decide (x.id = k) := by
    funext n
    simp only [Function.comp]
    by_cases e : n.id = id
    · simp [e, hf]
    · simp [e]
  rw [this, h]
  refine ⟨_, rfl, ?_⟩
  by_cases e : n.id = id
  · simp [e, hk]
  · simp [e]
theorem chg_fit {N : List Nd} {T : Pk → CV} {s : Stp} (hf : FitP N T) (hk : 1 ≤ s.kind ∧ s.kind ≤ 5) (h : (chgN N s).1 = 0) : FitP (chgN N s).2 (keptT s T) := by
  intro p hp
  have hp0 := kept_from hp
  obtain ⟨m, hm, hm1⟩ := hf p hp0
  have hno : dropsB s = true → p.1 ≠ s.nd.id := fun hd e => by
    rw [keptT_at, if_pos ⟨hd, e⟩] at hp
    exact hp rfl
  unfold chgN at h ⊢
  cases hq : findN N s.nd.id with
  | none =>
    rw [hq] at h
    simp only at h ⊢
    by_cases h2 : s.kind = 2
    · rw [if_pos h2] at h ⊢
      by_cases h3 : s.nd.kind = 0
      · rw [if_pos h3] at h; cases h
      · rw [if_neg h3]
        simp only
        rw [findN_app, hm]
        exact ⟨m, rfl, hm1⟩
    · rw [if_neg h2] at h; cases h
  | some n =>
    rw [hq] at h
    simp only at h ⊢
    by_cases h2 : s.kind = 2
    · rw [if_pos h2] at h; cases h
    rw [if_neg h2] at h ⊢
    by_cases h1 : s.kind = 1
    · rw [if_pos h1] at h ⊢
      by_cases c : n.kind = 1
      · rw [if_pos c] at h ⊢
        by_cases d : (chkL s.nd.pg).isSome = true
        · rw [if_pos d]
          obtain ⟨m2, a, b⟩ := kind_upd (f := pgN s.nd.pg) (id := s.nd.id) (fun _ => rfl) (fun _ => rfl) hm
          exact ⟨m2, a, by omega⟩
        · rw [if_neg d] at h; cases h
      · rw [if_neg c] at h; cases h
    rw [if_neg h1] at h ⊢
    by_cases h3 : s.kind = 3
    · rw [if_pos h3] at h ⊢
      by_cases c : n.kind = 0 ∨ (childN N s.nd.id).length ≠ 0
      · rw [if_pos c] at h; cases h
      · rw [if_neg c]
        refine ⟨m, ?_, hm1⟩
        simp only
        rw [find_del_ne (hno (by unfold dropsB; simp [h3])), hm]
    rw [if_neg h3] at h ⊢
    by_cases h4 : s.kind = 4
    · rw [if_pos h4] at h ⊢
      by_cases c : n.kind = 0
      · rw [if_pos c] at h; cases h
      · rw [if_neg c]
        obtain ⟨m2, a, b⟩ := kind_upd (f := rtN s.nd.par s.nd.rt) (id := s.nd.id) (fun _ => rfl) (fun _ => rfl) hm
        exact ⟨m2, a, by omega⟩
    rw [if_neg h4] at h ⊢
    by_cases c : n.kind = 2
    · rw [if_pos c]
      obtain ⟨m2, a, b⟩ := kind_upd (f := frN s.nd.fr) (id := s.nd.id) (fun _ => rfl) (fun _ => rfl) hm
      exact ⟨m2, a, by omega⟩
    · rw [if_neg c] at h; cases h
theorem step_fit {L : List Nd} {T : Pk → CV} {s : Stp} (hf : FitP L T) (h : (stepN L s).1 = 0) : FitP (stepN L s).2 (keptT s T) := by
  have hkk := step_kind h
  unfold stepN at h ⊢
  by_cases hc : checkN L ≠ 0
  · rw [if_pos hc] at h; cases h
  rw [if_neg hc] at h ⊢
  rw [if_neg (by omega)] at h ⊢
  obtain ⟨h1, h2, h3⟩ := end_ok h
  rw [h3]
  have hn : FitP (normL L) T := fun p hp => by rw [findN_norm]; exact hf p hp
  have := chg_fit hn hkk h1
  intro p hp
  simp only
  rw [findN_norm]
  exact this p hp
theorem go_fit : ∀ (P : List Stp) (i : Nat) (L : List Nd) (T : Pk → CV), FitP L T → (goN i L P).1 = 0 → FitP (goN i L P).2.2 (kepL T P)
  | [], _, _, _, hf, _ => hf
  | s :: P, i, L, T, hf, h => by
    unfold goN at h ⊢
    by_cases c : (stepN L s).1 ≠ 0
    · rw [if_pos c] at h; exact absurd h c
    · rw [if_neg c] at h ⊢
      have := go_fit P (i + 1) _ _ (step_fit hf (Decidable.not_not.1 c)) h
      unfold kepL
      rw [List.foldl_cons, kepS_eq]
      exact this
theorem apply_fit {L : List Nd} {P : List Stp} {T : Pk → CV} (hf : FitP L T) (h : (applyN L P).1 = 0) : FitP (applyN L P).2.2 (kepL T P) := by
  unfold applyN at h ⊢
  by_cases hc : checkN L ≠ 0
  · rw [if_pos hc] at h; cases h
  rw [if_neg hc] at h ⊢
  by_cases hk : P.length < 1 ∨ 6 < P.length
  · rw [if_pos hk] at h; cases h
  rw [if_neg hk] at h ⊢
  exact go_fit P 0 L T hf h
theorem fits_apply {L : List Nd} {P : List Stp} {T : Pk → CV} (hok : TOk T) (hf : fitsT L T = true) (h : (applyN L P).1 = 0) : fitsT (applyN L P).2.2 (kepL T P) = true :=
  (fitsT_iff (TOk.kepL hok)).2 (apply_fit ((fitsT_iff hok).1 hf) h)
end Go.Proofs.YtfakgidimekikaaGreat
namespace Go.Proofs.YtfakgidimekikaaGreat
open Go.RowKit Go.Fb
set_option linter.unusedVariables false
def exE (n : Int) : Nat → Int := entF (n, 3) (1, 0, 0, 0)
def exSw (n : Int) (b : Bool) : Stp := ⟨1, ⟨n, 0, 0, [], [], fun _ => 0⟩, b⟩
def exT : Pk → CV := tabL [exE 1, exE 2]
def exU : Pk → CV := keptT (exSw 1 true) exT
theorem ex_ok : [exE 1, exE 2].all okE = true := by decide +kernel
theorem ex_left : (allT exU).length = 1 := by decide +kernel
theorem ex_same : keptT (exSw 2 false) exU = exU := by
  unfold keptT dropsB exSw
  simp
theorem exT_ok : TOk exT := tabL_ok _ _ TOk.zero ex_ok
theorem exU_ok : TOk exU := TOk.kept exT_ok _
set_option maxRecDepth 100000 in
set_option maxHeartbeats 4000000 in
theorem awake11_any (w : World) : Calls Tryz.prog 23 #[] w fun e w' => e = .returned (.bool true) ∧ Fr w.heap.size [] w w' := by
  obtain ⟨wa, hwa⟩ : ∃ wa, wa = w.alloc (.cells #[.int .i64 1, .int .i64 3, .int .i64 1, .int .i64 0, .int .i64 0, .int .i64 0, .int .i64 2, .int .i64 3, .int .i64 1, .int .i64 0, .int .i64 0, .int .i64 0] 97) := ⟨_, rfl⟩
  have fa : Fr w.heap.size [] w wa := by rw [hwa]; exact (Fr.refl _ _ _).alloc (Nat.le_refl _) _
  have BA : Blk wa w.heap.size 97 #[.int .i64 1, .int .i64 3, .int .i64 1, .int .i64 0, .int .i64 0, .int .i64 0, .int .i64 2, .int .i64 3, .int .i64 1, .int .i64 0, .int .i64 0, .int .i64 0] := by rw [hwa]; exact Blk.new _ _ _
  have HN := Lib.hid (cnew_any (some ⟨w.heap.size, 0, none⟩) 2 2 (w.heap.size + 1) [exE 1, exE 2] wa rfl (by omega) (Reads.of_blk BA rfl) BA.lt)
  have HWA := Lib.hid hwa
  have FA := Lib.hid fa
  obtain ⟨gm, hgm⟩ : ∃ g, g = wa.heap.size := ⟨_, rfl⟩
  obtain ⟨gt, hgt⟩ : ∃ g, g = gm + 1 := ⟨_, rfl⟩
  have hwg : w.heap.size ≤ gm := by rw [hgm]; exact fa.size
  have HGM := Lib.hid hgm
  have HGT := Lib.hid hgt
  clear hwa fa BA hgm hgt
  go_enter Tryz.func23, Tryz.ntmps23
  go_wp2_with fail
  rw [← HWA.out]
  refine HN.out.mono ?_
  rintro e w1 (⟨hb, _⟩ | ⟨_, rfl, c1, f1⟩)
  · rw [ex_ok] at hb; cases hb
  rw [← HGM.out, ← HGT.out] at c1
  rw [← HGM.out, ← HGT.out]
  have F1 := Lib.hid (FA.out.trans (f1.mono (B' := w.heap.size) (L' := []) FA.out.size (by simp)))
  have HS1 := Lib.hid (rmstep_any gt gm exT exT_ok (exSw 1 true) (.slice none 0 0) (.slice none 0 0) w1 c1)
  rw [show stpE (exSw 1 true) = 0 from rfl, if_pos rfl] at HS1
  clear c1 f1 HN FA HWA
  go_wp2_with fail
  refine HS1.out.mono ?_
  rintro e w2 ⟨rfl, c2, f2⟩
  have F2 := Lib.hid (F1.out.trans (f2.mono (B' := w.heap.size) (L' := []) F1.out.size (by simp; omega)))
  have HC2 := Lib.hid (show CT w2 gt gm exU from c2)
  obtain ⟨q, hq⟩ : ∃ q, q = allT exU := ⟨_, rfl⟩
  have hq1 : q.length = 1 := by rw [hq]; exact ex_left
  have HA2 := Lib.hid (fun (W : World) (hc : CT W gt gm exU) => (by rw [hq]; exact call_any gt gm exU exU_ok W hc : Calls Tryz.prog 28 #[.pointer (some ⟨gt, 0, none⟩)] W (EntsOut q W)))
  have HQ1 := Lib.hid hq1
  clear c2 f2 HS1 F1 hq hq1
  have HA := Lib.hid (HA2.out w2 HC2.out)
  go_wp2_with fail
  refine HA.out.mono ?_
  rintro e w3 ⟨A3, k3, rfl, _, _, _, f3⟩
  have F3 := Lib.hid (F2.out.trans (f3.mono (B' := w.heap.size) (L' := []) F2.out.size (by simp)))
  have HC3 := Lib.hid (HC2.out.keep f3)
  have HS3 := Lib.hid (rmstep_any gt gm exU exU_ok (exSw 2 false) (.slice none 0 0) (.slice none 0 0) w3 HC3.out)
  rw [show stpE (exSw 2 false) = 0 from rfl, if_pos rfl, ex_same] at HS3
  rw [HQ1.out]
  clear f3 HA F2 HC2
  go_wp2_with fail
  refine HS3.out.mono ?_
  rintro e w4 ⟨rfl, c4, f4⟩
  have F4 := Lib.hid (F3.out.trans (f4.mono (B' := w.heap.size) (L' := []) F3.out.size (by simp; omega)))
  have HA := Lib.hid (HA2.out w4 c4)
  clear c4 f4 HS3 F3 HC3 HA2
  go_wp2_with fail
  refine HA.out.mono ?_
  rintro e w5 ⟨A5, k5, rfl, _, _, _, f5⟩
  have F5 := Lib.hid (F4.out.trans (f5.mono (B' := w.heap.size) (L' := []) F4.out.size (by simp)))
  rw [HQ1.out]
  clear f5 HA F4
  go_wp2_with fail
  go_ret
  exact ⟨rfl, F5.out⟩
end Go.Proofs.YtfakgidimekikaaGreat
namespace Go.Proofs.YtfakgidimekikaaGreat
open Go.RowKit Go.Fb
set_option linter.unusedVariables false
def KeptOut (l : List (Nat → Int)) (w : World) (e : Ending) (w' : World) : Prop := ∃ A c, e = .returned (.slice A l.length c) ∧ Reads w' w'.heap.size 6 A l.length (cellsE l) ∧ Fr w.heap.size [] w w'
theorem keptE_le (l : List (Nat → Int)) (s : Stp) : (keptE l s).length ≤ l.length := by
  unfold keptE
  split
  · exact List.length_filter_le _ _
  · exact Nat.le_refl _
theorem keptL_le : ∀ (P : List Stp) (l : List (Nat → Int)), (keptL l P).length ≤ l.length
  | [], _ => Nat.le_refl _
  | s :: P, l => Nat.le_trans (keptL_le P (keptE l s)) (keptE_le l s)
def notI (id : Int) (x : Nat → Int) : Bool := decide (x 0 ≠ id)
theorem filt_step {f : (Nat → Int) → Bool} {l : List (Nat → Int)} {k : Nat} {x : Nat → Int} (h : l[k]? = some x) : (l.take (k + 1)).filter f = (l.take k).filter f ++ if f x = true then [x] else [] := by
  rw [List.take_add_one, h, List.filter_append]
  by_cases hf : f x = true <;> simp [hf]
set_option maxRecDepth 100000 in
set_option maxHeartbeats 8000000 in
theorem kept_any (A0 A2 : Option Addr) (k0 c2 n0 n2 B : Nat) (l : List (Nat → Int)) (S : List Stm) (w : World) (hl : n0 = l.length) (hm : n0 ≤ 1000000) (hr : Reads w B 6 A0 n0 (cellsE l)) (hB : B ≤ w.heap.size) (hS : Sts w B A2 n2 S) (hn2 : n2 ≤ 1000000) :
    Calls Tryz.prog 34 #[.slice A0 n0 k0, .slice A2 n2 c2] w (KeptOut (keptL l (fstS S)) w) := by
  obtain ⟨P, hP⟩ : ∃ P, P = fstS S := ⟨_, rfl⟩
  rw [← hP]
  have HP := Lib.hid hP
  have HNU := Lib.hid hS.num
  have HST := Lib.hid hS
  have HR := Lib.hid (hr.more hB)
  have HL := Lib.hid hl
  clear hP hS hr hl
  go_enter Tryz.func34, Tryz.ntmps34
  go_wp2_with fail
  go_loopg [0, 6, 7, 9, 12] n2 (fun g s0 s6 s7 s9 s12 wr => ∃ (k : Nat) (A' : Option Addr) (c' n' : Nat), k ≤ n2 ∧ g = n2 - k ∧ s0 = .slice A' n' c' ∧ s12 = .int .i64 k ∧ (s6 = undef ∨ ∃ a, s6 = .pointer a) ∧ (s7 = undef ∨ ∃ A n c, s7 = .slice A n c) ∧ (s9 = undef ∨ ∃ a, s9 = .pointer a) ∧ RowKit.Hid (n' = (keptL l (P.take k)).length) ∧ RowKit.Hid (Reads wr wr.heap.size 6 A' n' (cellsE (keptL l (P.take k)))) ∧ RowKit.Hid (Fr w.heap.size [] w wr))
  case atStart => exact ⟨0, A0, k0, n0, Nat.zero_le _, rfl, rfl, rfl, .inl rfl, .inl rfl, .inl rfl, HL, HR, Lib.hid (Fr.refl _ _ _)⟩
  case round =>
    clear HR
    obtain ⟨k, A', c', n', hk, rfl, rfl, rfl, h6, h7, h9, HN, R, F⟩ := hrel
    have hn' : n' ≤ 1000000 := by
      have := keptL_le (P.take k) l
      rw [← HN.out, ← HL.out] at this
      omega
    by_cases hkn : k < n2
    · have hki : (k : Int) < (n2 : Int) := by omega
      have hk0 : (0 : Int) ≤ (k : Int) := by omega
      obtain ⟨m, hx⟩ : ∃ m, S[k]? = some m := ⟨_, List.getElem?_eq_getElem (by rw [← HNU.out]; exact hkn)⟩
      have HSW := HST.out.frw F.out hB (by simp)
      obtain ⟨b1, o1, rfl, hb1, hc1⟩ := HSW.get hx
      have HTK := Lib.hid (show keptL l (P.take (k + 1)) = keptE (keptL l (P.take k)) m.1 by
        have : P[k]? = some m.1 := by rw [HP.out]; simp [fstS, hx]
        rw [List.take_add_one, this]
        exact keptL_snoc _ _ _)
      have hin := HSW.inn m (List.mem_of_getElem? hx)
      obtain ⟨⟨kd, y, rs⟩, sf, sp⟩ := m
      simp only at HTK hin
      obtain ⟨⟨Af, cf, hf1, hf2⟩, ⟨Ap, cp, hp1, hp2⟩⟩ := hin
      simp only at hf1 hp1 hf2 hp2
      clear hf2 hp2
      obtain ⟨nf, hnf⟩ : ∃ z, z = y.fr.length := ⟨_, rfl⟩
      obtain ⟨np, hnp⟩ : ∃ z, z = y.pg.length := ⟨_, rfl⟩
      rw [← hnf] at hf1
      rw [← hnp] at hp1
      subst hf1
      subst hp1
      clear hnf hnp
      have p0 := hc1 0 (.int .i64 kd) rfl
      have p1 := hc1 1 (.int .i64 y.id) rfl
      have p2 := hc1 2 (.int .i64 y.kind) rfl
      have p3 := hc1 3 (.slice Af nf cf) rfl
      have p4 := hc1 4 (.slice Ap np cp) rfl
      have p5 := hc1 5 (.int .i64 y.par) rfl
      have p6 := hc1 6 (.int .i64 (y.rt 0)) rfl
      have p7 := hc1 7 (.int .i64 (y.rt 1)) rfl
      have p8 := hc1 8 (.int .i64 (y.rt 2)) rfl
      have p9 := hc1 9 (.int .i64 (y.rt 3)) rfl
      have p10 := hc1 10 (.int .i64 (y.rt 4)) rfl
      have p11 := hc1 11 (.int .i64 (y.rt 5)) rfl
      have p12 := hc1 12 (.int .i64 (y.rt 6)) rfl
      have p13 := hc1 13 (.int .i64 (y.rt 7)) rfl
      have p14 := hc1 14 (.bool rs) rfl
      simp only [Nat.add_zero] at p0
      clear hc1 hx HSW
      have fa := (Fr.refl wr.heap.size [] wr).alloc (Nat.le_refl _) (.cells (stA kd y rs (.slice Af nf cf) (.slice Ap np cp)) 52)
      have BX := Lib.hid (Blk.new wr 52 (stA kd y rs (.slice Af nf cf) (.slice Ap np cp)))
      have HFA := Lib.hid (F.out.trans (fa.mono (B' := w.heap.size) (L' := []) F.out.size (by simp)))
      have RA := Lib.hid ((R.out.fr fa (Nat.le_refl _) (by simp)).more (B' := (wr.alloc (.cells (stA kd y rs (.slice Af nf cf) (.slice Ap np cp)) 52)).heap.size) (by simp))
      clear fa hb1
      go_upto_region 4 with fail
      clear p0 p1 p2 p3 p4 p5 p6 p7 p8 p9 p10 p11 p12 p13 p14
      generalize wr.alloc (.cells (stA kd y rs (.slice Af nf cf) (.slice Ap np cp)) 52) = wa at *
      generalize wr.heap.size = gx at *
      have q0 := BX.out.cell 0
      have q1 := BX.out.cell 1
      have q14 := BX.out.cell 14
      simp at q0 q1 q14
      obtain ⟨db, hdb⟩ : ∃ b, b = dropsB ⟨kd, y, rs⟩ := ⟨_, rfl⟩
      have HDB := Lib.hid hdb
      clear hdb R F
      cases db with
      | false =>
        have HT2 := Lib.hid (show keptL l (P.take (k + 1)) = keptL l (P.take k) by rw [HTK.out]; unfold keptE; rw [if_neg (by rw [← HDB.out]; simp)])
        have hkk : (kd ≠ 1 ∧ kd ≠ 2 ∧ kd ≠ 3) ∨ (kd = 1 ∧ rs = false) := by
          have h := HDB.out
          unfold dropsB at h
          simp at h
          by_cases e : kd = 1
          · exact .inr ⟨e, h.1 e⟩
          · exact .inl ⟨e, fun h2 => h.2.2 h2, fun h3 => h.2.1 h3⟩
        clear HTK
        rcases hkk with ⟨h1, h2, h3⟩ | ⟨rfl, rfl⟩
        · have b1 := kd_ne h1
          have b2 := kd_ne h2
          have b3 := kd_ne h3
          go_wp2_with fail
          go_roundg (n2 - (k + 1))
          case measure => omega
          case rel => exact ⟨k + 1, A', c', n', by omega, rfl, rfl, by go_num, .inr ⟨_, rfl⟩, h7, h9, by rw [HT2.out]; exact HN, by rw [HT2.out]; exact RA, HFA⟩
        · go_wp2_with fail
          go_roundg (n2 - (k + 1))
          case measure => omega
          case rel => exact ⟨k + 1, A', c', n', by omega, rfl, rfl, by go_num, .inr ⟨_, rfl⟩, h7, h9, by rw [HT2.out]; exact HN, by rw [HT2.out]; exact RA, HFA⟩
      | true =>
        have hor : (kd = 1 ∧ rs = true) ∨ (kd = 3 ∧ kd ≠ 1) ∨ (kd = 2 ∧ kd ≠ 1 ∧ kd ≠ 3) := by
          have h := HDB.out
          unfold dropsB at h
          simp at h
          rcases h with h | h | h
          · exact .inl h
          · exact .inr (.inl ⟨h, by omega⟩)
          · exact .inr (.inr ⟨h, by omega⟩)
        obtain ⟨LL, hLL⟩ : ∃ LL, LL = keptL l (P.take k) := ⟨_, rfl⟩
        rw [← hLL] at HN RA HTK
        have HT2 := Lib.hid (show keptL l (P.take (k + 1)) = LL.filter (notI y.id) by rw [HTK.out]; unfold keptE; rw [if_pos HDB.out.symm]; rfl)
        clear HTK HDB hLL
        go_cut [32] (fun s32 wx => s32 = .bool true ∧ wx = wa)
        case first =>
          rcases hor with ⟨rfl, rfl⟩ | ⟨rfl, _⟩ | ⟨rfl, _, _⟩
          · go_wp2_with fail
            go_meet
            exact ⟨rfl, rfl⟩
          · go_wp2_with fail
            go_meet
            exact ⟨rfl, rfl⟩
          · go_wp2_with fail
            go_meet
            exact ⟨rfl, rfl⟩
        case rest =>
          obtain ⟨rfl, hwc⟩ := hcut
          subst hwc
          clear hor q0 q14
          go_upto_region 7 with fail
          go_loopg [7, 9, 35] n' (fun g s7 s9 s35 wi => ∃ (j : Nat) (A3 : Option Addr) (c3 n3 : Nat), j ≤ n' ∧ g = n' - j ∧ s7 = .slice A3 n3 c3 ∧ s35 = .int .i64 j ∧ (s9 = undef ∨ ∃ a, s9 = .pointer a) ∧ n3 ≤ n' ∧ RowKit.Hid (n3 = ((LL.take j).filter (notI y.id)).length) ∧ RowKit.Hid (wi.ownsRow wc.heap.size 97 6 (.slice A3 n3 c3) n3 (cellsE ((LL.take j).filter (notI y.id)))) ∧ RowKit.Hid (Fr wc.heap.size [] wc wi))
          case atStart => exact ⟨0, none, 0, 0, Nat.zero_le _, rfl, rfl, rfl, h9, Nat.zero_le _, Lib.hid rfl, Lib.hid (World.ownsRow_nil _ _ _ _), Lib.hid (Fr.refl _ _ _)⟩
          case round =>
            obtain ⟨j, A3, c3, n3, hj, rfl, rfl, rfl, h9, hn3, HN3, HO, FI⟩ := hrel
            by_cases hjn : j < n'
            · have hji : (j : Int) < (n' : Int) := by omega
              have hj0 : (0 : Int) ≤ (j : Int) := by omega
              have hjl : j < LL.length := by rw [← HN.out]; exact hjn
              obtain ⟨x, hx⟩ : ∃ x, LL[j]? = some x := ⟨_, List.getElem?_eq_getElem hjl⟩
              obtain ⟨b, off, rfl, hb, hc⟩ := reads_ent (by rw [← HN.out]; exact RA.out.fr FI.out (Nat.le_refl _) (by simp)) hx
              have p0 := hc 0 (by omega)
              have p1 := hc 1 (by omega)
              have p2 := hc 2 (by omega)
              have p3 := hc 3 (by omega)
              have p4 := hc 4 (by omega)
              have p5 := hc 5 (by omega)
              simp only [Nat.add_zero, ← Nat.add_assoc] at p0 p1 p2 p3 p4 p5
              have HFS := Lib.hid (filt_step (f := notI y.id) hx)
              have hle3 := List.length_filter_le (notI y.id) (LL.take (j + 1))
              have hlt3 : (LL.take (j + 1)).length ≤ n' := by rw [List.length_take, ← HN.out]; omega
              clear hc hx hb
              have BE := Lib.hid (Blk.new wr 97 #[.int .i64 (x 0), .int .i64 (x 1), .int .i64 (x 2), .int .i64 (x 3), .int .i64 (x 4), .int .i64 (x 5)])
              have fe := (Fr.refl wr.heap.size [] wr).alloc (Nat.le_refl _) (.cells #[.int .i64 (x 0), .int .i64 (x 1), .int .i64 (x 2), .int .i64 (x 3), .int .i64 (x 4), .int .i64 (x 5)] 97)
              have FE := Lib.hid (FI.out.trans (fe.mono (B' := wc.heap.size) (L' := []) FI.out.size (by simp)))
              have HOE := Lib.hid (ownsRow_fr HO.out fe (fun q hq => ⟨(HO.out.lt q hq).2, by simp⟩))
              have q1e := (FE.out.cell (p := ⟨gx, 1, none⟩) BX.out.lt (by simp)).trans q1
              have hsz : wc.heap.size ≤ wr.heap.size := FI.out.size
              clear fe HO
              go_upto_region 9 with fail
              generalize wr.alloc _ = we at *
              generalize wr.heap.size = ge at *
              have x0 := BE.out.cell 0
              have x1 := BE.out.cell 1
              have x2 := BE.out.cell 2
              have x3 := BE.out.cell 3
              have x4 := BE.out.cell 4
              have x5 := BE.out.cell 5
              simp at x0 x1 x2 x3 x4 x5
              clear p0 p1 p2 p3 p4 p5
              by_cases hne : x 0 = y.id
              · have HT3 := Lib.hid (show (LL.take (j + 1)).filter (notI y.id) = (LL.take j).filter (notI y.id) by rw [HFS.out, if_neg (by simp [notI, hne]), List.append_nil])
                clear HFS
                go_wp2_with fail
                go_roundg (n' - (j + 1))
                case measure => omega
                case rel => exact ⟨j + 1, A3, c3, n3, by omega, rfl, rfl, by go_num, .inr ⟨_, rfl⟩, hn3, by rw [HT3.out]; exact HN3, by rw [HT3.out]; exact HOE, FE⟩
              · have HT3 := Lib.hid (show (LL.take (j + 1)).filter (notI y.id) = (LL.take j).filter (notI y.id) ++ [x] by rw [HFS.out, if_pos (by simp [notI, hne])])
                have HN4 := Lib.hid (show n3 + 1 = ((LL.take (j + 1)).filter (notI y.id)).length by rw [HT3.out, List.length_append, ← HN3.out]; rfl)
                have hn4 : n3 + 1 ≤ n' := by rw [HN4.out]; omega
                have hszE : wc.heap.size ≤ we.heap.size := FE.out.size
                clear HFS hle3 hlt3
                go_wp2_with (at_builtin; refine wpList_app_lit we rfl (.tmp 45) (.tmp 47) entTy rfl wc.heap.size (.slice A3 n3 c3) n3 (cellsE ((LL.take j).filter (notI y.id))) rfl HOE.out 1 1 #[.int .i64 (x 0), .int .i64 (x 1), .int .i64 (x 2), .int .i64 (x 3), .int .i64 (x 4), .int .i64 (x 5)] rfl rfl (by simp [Value.oneCell']) (by omega) (by omega) hszE ?_; intro A4 c4 w7 hown7 hg7 hat7)
                have hob : ∀ q, (Value.slice A3 n3 c3).ownBlock = some q → wc.heap.size ≤ q ∨ q ∈ ([] : List Nat) := fun q hq => .inl (HOE.out.lt q hq).1
                have F7 := Lib.hid ((FE.out.alloc hszE _).grown hg7 (by simp; omega) hob)
                have HO7 := Lib.hid (show w7.ownsRow wc.heap.size 97 6 (.slice A4 (n3 + 1) c4) (n3 + 1) (cellsE ((LL.take (j + 1)).filter (notI y.id))) by rw [HT3.out, cellsE_app]; exact hown7)
                clear hg7 hat7 hown7 hob
                go_roundg (n' - (j + 1))
                case measure => omega
                case rel => exact ⟨j + 1, A4, c4, n3 + 1, by omega, rfl, rfl, by go_num, .inr ⟨_, rfl⟩, hn4, HN4, HO7, F7⟩
            · obtain rfl : j = n' := by omega
              have hLt : LL.take j = LL := List.take_of_length_le (by rw [← HN.out]; exact Nat.le_refl _)
              rw [hLt] at HN3 HO
              have RO := Lib.hid (Reads.of_own HO.out)
              have F9 := Lib.hid (HFA.out.trans (FI.out.mono (B' := w.heap.size) (L' := []) HFA.out.size (by simp)))
              clear HO hLt
              go_wp2_with fail
              go_roundg (n2 - (k + 1))
              case measure => omega
              case rel => exact ⟨k + 1, A3, c3, n3, by omega, rfl, rfl, by go_num, .inr ⟨_, rfl⟩, .inr ⟨_, _, _, rfl⟩, h9, by rw [HT2.out]; exact HN3, by rw [HT2.out]; exact RO, F9⟩
    · obtain rfl : n2 = k := by omega
      have hPt : P.take n2 = P := List.take_of_length_le (by rw [HP.out, HNU.out]; simp [fstS])
      rw [hPt] at HN R
      clear hPt
      go_wp2_with fail
      go_ret
      unfold KeptOut
      rw [← HN.out]
      exact ⟨A', c', rfl, R.out, F.out⟩
end Go.Proofs.YtfakgidimekikaaGreat
