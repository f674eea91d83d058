/- The contract of check.Trim. -/
import Derived.Test.YtndjgjnnoknblaaTrimA
import Derived.Test.YtndjgjnnoknblaaCheckDead
import Derived.Deep.DeepCutAuto
import Derived.Deep.LoopGhost
namespace Go.Proofs.Ytndjgjnnoknblaa
open Go.RowKit Go.Fb
/-- What Trim leaves. -/
def TrimOut (l : List (Int × Int)) (w : World) (e : Ending) (w' : World) : Prop :=
  (∀ s, chkL l = some s → ∃ S A' c', StayOk l.length (pF l) s.D S ∧ e = .returned (.tuple #[.slice A' (trimL l.length S (pF l) l.length).length c', .int .i64 0]) ∧ Reads w' w'.heap.size 2 A' (trimL l.length S (pF l) l.length).length (cellsI (trimL l.length S (pF l) l.length))) ∧
  (chkL l = none → e = .returned (.tuple #[.slice none 0 0, .int .i64 9])) ∧ Fr w.heap.size [] w w'
theorem cellsI_app (a b : List (Int × Int)) : cellsI (a ++ b) = cellsI a ++ cellsI b := by simp [cellsI]
theorem adapt_of {n : Nat} {S : Nat → Bool} {p : Nat → Int × Int} {k : Nat} {o a : Int} (h : p k = (o, a)) :
    (o ≠ 15 → o ≠ 16 → adaptF n S p k = (o, a)) ∧ (o = 16 → adaptF n S p k = (16, (overF n S k a : Int))) ∧ (o = 15 → overF n S k a = 0 → adaptF n S p k = (13, 0)) ∧ (o = 15 → overF n S k a ≠ 0 → adaptF n S p k = (15, (overF n S k a : Int))) := by
  unfold adaptF
  rw [h]
  refine ⟨fun h1 h2 => by rw [if_neg (by simp only; omega)], fun h1 => ?_, fun h1 h2 => ?_, fun h1 h2 => ?_⟩
  · subst h1; rfl
  · subst h1; rw [if_pos (.inl rfl), if_pos ⟨rfl, h2⟩]
  · subst h1; rw [if_pos (.inl rfl), if_neg (fun c => h2 c.2)]
set_option maxRecDepth 100000 in
set_option maxHeartbeats 2000000 in
theorem trim_any (A : Option Addr) (c B : Nat) (l : List (Int × Int)) (w : World) (hr : Reads w B 2 A l.length (cellsI l)) (hB : B ≤ w.heap.size) (hn : l.length ≤ maxLen) :
    Calls Try.prog 27 #[.slice A l.length c] w (TrimOut l w) := by
  have HR := Lib.hid hr
  obtain ⟨n, hnl⟩ : ∃ n, n = l.length := ⟨_, rfl⟩
  have HN := Lib.hid hnl
  rcases (show chkL l = none ∨ ∃ s, chkL l = some s by cases chkL l; exact .inl rfl; exact .inr ⟨_, rfl⟩) with hck | ⟨s, hck⟩
  · have H := Lib.hid (check_no (c := c) hr hB hn hck)
    have HC := Lib.hid hck
    rw [← hnl] at H ⊢
    clear hr hn hck hnl
    go_enter Try.func27, Try.ntmps27
    go_wp2_with fail
    refine H.out.mono ?_
    rintro e w1 ⟨rfl, f1⟩
    have F1 := Lib.hid f1
    clear f1
    go_wp2_with fail
    go_ret2
    exact ⟨(fun s h => by rw [HC.out] at h; cases h), (fun _ => rfl), F1.out.alloc F1.out.size _⟩
  · have H := Lib.hid (check_yes (c := c) hr hB hn hck)
    have HC := Lib.hid hck
    obtain ⟨hf, hcf⟩ := chkL_some hck
    obtain ⟨hn24, hrr⟩ := fitsB_iff.1 hf
    have hrk : ∀ k, k < l.length → rightB (pF l k) = true := by
      intro k hk
      refine hrr _ ?_
      rw [pF, List.getD_eq_getElem?_getD, List.getElem?_eq_getElem hk]
      exact List.getElem_mem hk
    have HRK := Lib.hid hrk
    have HLV := Lib.hid (fun (w' : World) (gd : Nat) (hr' : Reads w' B 2 A l.length (cellsI l)) (hB' : B ≤ w'.heap.size) (hd : Blk w' gd 3 (intsA l.length s.D)) => lives_any A c gd B l s.D w' hr' hB' hd hn24 hrk)
    rw [← hnl] at H HLV hn24 HRK ⊢
    clear hr hn hck hnl hf hcf hrr hrk
    go_enter Try.func27, Try.ntmps27
    go_wp2_with fail
    refine H.out.mono ?_
    rintro e w1 ⟨gd, rfl, hgd, bd, f1⟩
    have hlt := bd.lt
    have BD := Lib.hid (bd.alloc (.cells (repV gd n s) 53))
    have BR := Lib.hid (Blk.new w1 53 (repV gd n s))
    have F1 := Lib.hid (f1.alloc f1.size (.cells (repV gd n s) 53))
    have HR1 := HR.out.fr F1.out hB (by simp)
    rw [← HN.out] at HR1
    have hB1 : B ≤ (w1.alloc (.cells (repV gd n s) 53)).heap.size := Nat.le_trans hB F1.out.size
    have HL1 := Lib.hid (HLV.out _ _ HR1 hB1 BD.out)
    clear f1 bd H HLV HR1
    go_wp2_with fail
    refine HL1.out.mono ?_
    rintro e w2 ⟨gs, S, rfl, hgs, bs, hS, f2⟩
    have BS := Lib.hid bs
    have HS := Lib.hid hS
    have F2 := Lib.hid (F1.out.trans (f2.mono F1.out.size (by simp)))
    have hgs2 := bs.lt
    clear bs hS f2 HL1 F1 BR BD hB1 hgs hlt
    go_upto_region 6 with fail
    go_wp2_with fail
    go_loopg [7, 9, 24] n (fun g s7 s9 s24 wr => ∃ (k : Nat) (A2 : Option Addr) (c2 : Nat), k ≤ n ∧ g = n - k ∧ s24 = .int .i64 k ∧ (s9 = undef ∨ ∃ a, s9 = .pointer a) ∧ s7 = .slice A2 (posS S k) c2 ∧ RowKit.Hid (wr.ownsRow w2.heap.size 49 2 (.slice A2 (posS S k) c2) (posS S k) (cellsI (trimL n S (pF l) k))) ∧ RowKit.Hid (Fr w2.heap.size [] w2 wr))
    case atStart => exact ⟨0, none, 0, Nat.zero_le _, rfl, rfl, .inl rfl, rfl, Lib.hid (World.ownsRow_nil _ _ _ _), Lib.hid (Fr.refl _ _ _)⟩
    case round =>
      obtain ⟨k, A2, c2, hk, rfl, rfl, hs9, rfl, HO, F3⟩ := hrel
      by_cases hkn : k < n
      · have hki : (k : Int) < (n : Int) := by omega
        have hkl : l[k]? = some (pF l k) := by rw [pF, List.getD_eq_getElem?_getD, List.getElem?_eq_getElem (by rw [← HN.out]; exact hkn)]; rfl
        obtain ⟨bb, off, hAe, hbb, p1, p2⟩ := reads_ins (HR.out.fr (F2.out.trans (F3.out.mono F2.out.size (by simp))) hB (by simp)) hkl
        subst hAe
        have hri := right_range (HRK.out k hkn)
        obtain ⟨⟨o, a⟩, hi⟩ : ∃ i, i = pF l k := ⟨_, rfl⟩
        rw [← hi] at p1 p2 hri
        simp only at p1 p2 hri
        have HI := Lib.hid (adapt_of (n := n) (S := S) hi.symm)
        have HL := Lib.hid hri.2.2.2.2.1
        have xs := ((BS.out.fr F3.out hgs2 (by simp)).cell k).trans (boolsA_get S hkn)
        have hsz := F3.out.size
        have hpk : posS S k ≤ k := posS_le S k
        have hgsr : gs < wr.heap.size := by omega
        clear hkl hi hri
        cases hSk : S k with
        | false =>
          rw [hSk] at xs
          have HP := Lib.hid (posS_no hSk)
          have HT := Lib.hid (show trimL n S (pF l) (k + 1) = trimL n S (pF l) k by rw [trimL, if_neg (by rw [hSk]; decide)])
          clear hSk
          go_wp2_with fail
          go_roundg (n - (k + 1))
          case measure => omega
          case rel => exact ⟨k + 1, A2, c2, by omega, rfl, by go_num, .inr ⟨_, rfl⟩, by rw [HP.out], by rw [HP.out, HT.out]; exact Lib.hid (HO.out.alloc _), Lib.hid (F3.out.alloc F3.out.size _)⟩
        | true =>
          rw [hSk] at xs
          have HP := Lib.hid (posS_yes hSk)
          have HT := Lib.hid (show trimL n S (pF l) (k + 1) = trimL n S (pF l) k ++ [adaptF n S (pF l) k] by rw [trimL, if_pos hSk])
          clear hSk
          go_upto_region 10 with fail
          have BI := Lib.hid (Blk.new wr 49 #[.int .i64 o, .int .i64 a])
          have HOa := Lib.hid (HO.out.alloc (.cells #[.int .i64 o, .int .i64 a] 49))
          have FA := Lib.hid (F3.out.alloc F3.out.size (.cells #[.int .i64 o, .int .i64 a] 49))
          have hgi := BI.out.lt
          have HOx := fun q hq => (HO.out.lt q hq).2
          have BSa := Lib.hid (BS.out.fr FA.out hgs2 (by simp))
          clear F3 HO p1 p2 xs
          generalize wr.alloc (.cells #[.int .i64 o, .int .i64 a] 49) = wa at *
          generalize wr.heap.size = gi at *
          have i0 := BI.out.cell 0
          have i1 := BI.out.cell 1
          have z0 := BI.out.frozen 0
          have z1 := BI.out.frozen 1
          simp at i0 i1
          have hgo : ∀ q, Value.ownBlock (.slice A2 (posS S k) c2) = some q → q ≠ gi := by
            intro q hq e
            have := (HOx q hq)
            omega
          by_cases h16 : o = 16
          ·
            have ha := HL.out (.inr h16)
            have HOV := Lib.hid (over_any (some ⟨gs, 0, none⟩) n (gs + 1) n S k a wa (Reads.of_blk BSa.out (by rw [boolsA_size, Nat.mul_one])) (by have := BSa.out.lt; omega) hn24 hkn (by omega))
            have HAD := Lib.hid (HI.out.2.1 h16)
            subst h16
            clear ha HL HI
            go_wp2_with fail
            refine HOV.out.mono ?_
            rintro e w' ⟨rfl, rfl⟩
            go_upto_region 14 with fail
            have BX : RowKit.Hid (Blk (wa.setCell ⟨gi, 1, none⟩ (.int .i64 (overF n S k a : Int))) gi 49 #[Value.int .i64 16, Value.int .i64 (overF n S k a : Int)]) := Lib.hid (BI.out.set_ 1 _)
            have FX : RowKit.Hid (Fr wa.heap.size [gi] wa (wa.setCell ⟨gi, 1, none⟩ (.int .i64 (overF n S k a : Int)))) := Lib.hid ((Fr.refl _ _ _).setCell (p := ⟨gi, 1, none⟩) (.inr (by simp)) _)
            generalize hwce : wa.setCell ⟨gi, 1, none⟩ (.int .i64 (overF n S k a : Int)) = wc at *
            clear hwce
            have x0 := BX.out.cell 0
            have x1 := BX.out.cell 1
            simp at x0 x1
            have hown := Go.Fb.ownsRow_fr HOa.out FX.out (fun q hq => ⟨(HOa.out.lt q hq).2, fun hm => by rw [List.mem_singleton] at hm; exact hgo q hq hm⟩)
            have hwc : w2.heap.size ≤ wc.heap.size := Nat.le_trans FA.out.size FX.out.size
            clear BI i0 i1 z0 z1
            go_wp2_with (at_builtin; refine wpList_app_lit _ rfl (.tmp 57) (.tmp 59) instrTy rfl w2.heap.size (.slice A2 (posS S k) c2) (posS S k) _ rfl hown 1 1 _ rfl rfl (by simp [Value.oneCell']) (by omega) (by omega) (by omega) ?_; intro A3 c3 w3 hown3 hg3 hat3)
            have F4 := Lib.hid ((FA.out.trans (FX.out.mono FA.out.size (by intro q hq hq2; rw [List.mem_singleton] at hq; omega))).trans (Fr.of_app hg3 hown hwc))
            have HO3 := Lib.hid hown3
            clear hown3 hg3 hat3 hown
            go_roundg (n - (k + 1))
            case measure => omega
            case rel => exact ⟨k + 1, A3, c3, by omega, rfl, by go_num, .inr ⟨_, rfl⟩, by rw [HP.out], by rw [HP.out, HT.out, cellsI_app, HAD.out]; exact Lib.hid HO3.out, F4⟩
          by_cases h15 : o = 15
          · have ha := HL.out (.inl h15)
            have HOV := Lib.hid (over_any (some ⟨gs, 0, none⟩) n (gs + 1) n S k a wa (Reads.of_blk BSa.out (by rw [boolsA_size, Nat.mul_one])) (by have := BSa.out.lt; omega) hn24 hkn (by omega))
            by_cases hov : overF n S k a = 0
            ·
              have HAD := Lib.hid (HI.out.2.2.1 h15 hov)
              rw [hov] at HOV
              subst h15
              clear ha HL HI hov
              go_wp2_with fail
              refine HOV.out.mono ?_
              rintro e w' ⟨rfl, rfl⟩
              go_upto_region 14 with fail
              have BX : RowKit.Hid (Blk (((wa.setCell ⟨gi, 1, none⟩ (.int .i64 0)).setCell ⟨gi, 0, none⟩ (.int .i64 13)).setCell ⟨gi, 1, none⟩ (.int .i64 0)) gi 49 #[Value.int .i64 13, Value.int .i64 0]) := Lib.hid (((BI.out.set_ 1 _).set_ 0 _).set_ 1 _)
              have FX : RowKit.Hid (Fr wa.heap.size [gi] wa (((wa.setCell ⟨gi, 1, none⟩ (.int .i64 0)).setCell ⟨gi, 0, none⟩ (.int .i64 13)).setCell ⟨gi, 1, none⟩ (.int .i64 0))) := Lib.hid ((((Fr.refl _ _ _).setCell (p := ⟨gi, 1, none⟩) (.inr (by simp)) _).setCell (p := ⟨gi, 0, none⟩) (.inr (by simp)) _).setCell (p := ⟨gi, 1, none⟩) (.inr (by simp)) _)
              generalize hwce : ((wa.setCell ⟨gi, 1, none⟩ (.int .i64 0)).setCell ⟨gi, 0, none⟩ (.int .i64 13)).setCell ⟨gi, 1, none⟩ (.int .i64 0) = wc at *
              clear hwce
              have x0 := BX.out.cell 0
              have x1 := BX.out.cell 1
              simp at x0 x1
              have hown := Go.Fb.ownsRow_fr HOa.out FX.out (fun q hq => ⟨(HOa.out.lt q hq).2, fun hm => by rw [List.mem_singleton] at hm; exact hgo q hq hm⟩)
              have hwc : w2.heap.size ≤ wc.heap.size := Nat.le_trans FA.out.size FX.out.size
              clear BI i0 i1 z0 z1
              go_wp2_with (at_builtin; refine wpList_app_lit _ rfl (.tmp 57) (.tmp 59) instrTy rfl w2.heap.size (.slice A2 (posS S k) c2) (posS S k) _ rfl hown 1 1 _ rfl rfl (by simp [Value.oneCell']) (by omega) (by omega) (by omega) ?_; intro A3 c3 w3 hown3 hg3 hat3)
              have F4 := Lib.hid ((FA.out.trans (FX.out.mono FA.out.size (by intro q hq hq2; rw [List.mem_singleton] at hq; omega))).trans (Fr.of_app hg3 hown hwc))
              have HO3 := Lib.hid hown3
              clear hown3 hg3 hat3 hown
              go_roundg (n - (k + 1))
              case measure => omega
              case rel => exact ⟨k + 1, A3, c3, by omega, rfl, by go_num, .inr ⟨_, rfl⟩, by rw [HP.out], by rw [HP.out, HT.out, cellsI_app, HAD.out]; exact Lib.hid HO3.out, F4⟩
            ·
              have HAD := Lib.hid (HI.out.2.2.2 h15 hov)
              have hov2 : ((overF n S k a : Int) == 0) = false := by simpa using hov
              have HNZ := Lib.hid hov
              subst h15
              clear ha HL HI hov
              go_wp2_with fail
              refine HOV.out.mono ?_
              rintro e w' ⟨rfl, rfl⟩
              go_upto_region 14 with fail
              have BX : RowKit.Hid (Blk (wa.setCell ⟨gi, 1, none⟩ (.int .i64 (overF n S k a : Int))) gi 49 #[Value.int .i64 15, Value.int .i64 (overF n S k a : Int)]) := Lib.hid (BI.out.set_ 1 _)
              have FX : RowKit.Hid (Fr wa.heap.size [gi] wa (wa.setCell ⟨gi, 1, none⟩ (.int .i64 (overF n S k a : Int)))) := Lib.hid ((Fr.refl _ _ _).setCell (p := ⟨gi, 1, none⟩) (.inr (by simp)) _)
              generalize hwce : wa.setCell ⟨gi, 1, none⟩ (.int .i64 (overF n S k a : Int)) = wc at *
              clear hwce
              have x0 := BX.out.cell 0
              have x1 := BX.out.cell 1
              simp at x0 x1
              have hown := Go.Fb.ownsRow_fr HOa.out FX.out (fun q hq => ⟨(HOa.out.lt q hq).2, fun hm => by rw [List.mem_singleton] at hm; exact hgo q hq hm⟩)
              have hwc : w2.heap.size ≤ wc.heap.size := Nat.le_trans FA.out.size FX.out.size
              clear BI i0 i1 z0 z1
              go_wp2_with (at_builtin; refine wpList_app_lit _ rfl (.tmp 57) (.tmp 59) instrTy rfl w2.heap.size (.slice A2 (posS S k) c2) (posS S k) _ rfl hown 1 1 _ rfl rfl (by simp [Value.oneCell']) (by omega) (by omega) (by omega) ?_; intro A3 c3 w3 hown3 hg3 hat3)
              have F4 := Lib.hid ((FA.out.trans (FX.out.mono FA.out.size (by intro q hq hq2; rw [List.mem_singleton] at hq; omega))).trans (Fr.of_app hg3 hown hwc))
              have HO3 := Lib.hid hown3
              clear hown3 hg3 hat3 hown
              go_roundg (n - (k + 1))
              case measure => omega
              case rel => exact ⟨k + 1, A3, c3, by omega, rfl, by go_num, .inr ⟨_, rfl⟩, by rw [HP.out], by rw [HP.out, HT.out, cellsI_app, HAD.out]; exact Lib.hid HO3.out, F4⟩
          ·
            have b15 : (o == 15) = false := by simpa using h15
            have b16 : (o == 16) = false := by simpa using h16
            have HAD := Lib.hid (HI.out.1 h15 h16)
            clear h15 h16
            go_upto_region 14 with fail
            have BX : RowKit.Hid (Blk (wa) gi 49 #[Value.int .i64 o, Value.int .i64 a]) := Lib.hid (BI.out)
            have FX : RowKit.Hid (Fr wa.heap.size [gi] wa (wa)) := Lib.hid (Fr.refl _ _ _)
            generalize hwce : wa = wc at *
            clear hwce
            have x0 := BX.out.cell 0
            have x1 := BX.out.cell 1
            simp at x0 x1
            have hown := Go.Fb.ownsRow_fr HOa.out FX.out (fun q hq => ⟨(HOa.out.lt q hq).2, fun hm => by rw [List.mem_singleton] at hm; exact hgo q hq hm⟩)
            have hwc : w2.heap.size ≤ wc.heap.size := Nat.le_trans FA.out.size FX.out.size
            clear BI i0 i1 z0 z1
            go_wp2_with (at_builtin; refine wpList_app_lit _ rfl (.tmp 57) (.tmp 59) instrTy rfl w2.heap.size (.slice A2 (posS S k) c2) (posS S k) _ rfl hown 1 1 _ rfl rfl (by simp [Value.oneCell']) (by omega) (by omega) (by omega) ?_; intro A3 c3 w3 hown3 hg3 hat3)
            have F4 := Lib.hid ((FA.out.trans (FX.out.mono FA.out.size (by intro q hq hq2; rw [List.mem_singleton] at hq; omega))).trans (Fr.of_app hg3 hown hwc))
            have HO3 := Lib.hid hown3
            clear hown3 hg3 hat3 hown
            go_roundg (n - (k + 1))
            case measure => omega
            case rel => exact ⟨k + 1, A3, c3, by omega, rfl, by go_num, .inr ⟨_, rfl⟩, by rw [HP.out], by rw [HP.out, HT.out, cellsI_app, HAD.out]; exact Lib.hid HO3.out, F4⟩
      · obtain rfl : n = k := by omega
        go_wp2_with fail
        go_ret2
        refine ⟨(fun s' h => ?_), (fun h => by rw [HC.out] at h; cases h), F2.out.trans (F3.out.mono F2.out.size (by simp))⟩
        rw [HC.out] at h
        injection h with h
        subst h
        rw [← HN.out]
        refine ⟨S, A2, c2, HS.out, ?_, ?_⟩
        · rw [trimL_length]; rfl
        · rw [trimL_length]; exact Reads.of_own HO.out
end Go.Proofs.Ytndjgjnnoknblaa
