/- forebaylaw09.RouteTells. -/
import Derived.Test.YtkmkdodhahcpdaaRouteD
import Derived.Deep.RegionHeld3
import Derived.Deep.DeepCutAuto
namespace Go.Proofs.Ytkmkdodhahcpdaa
open Go.RowKit Go.Fb

abbrev C16 (a b : Nat → Int) : Array Value := #[.int .i64 (a 0), .int .i64 (a 1), .int .i64 (a 2), .int .i64 (a 3), .int .i64 (a 4), .int .i64 (a 5), .int .i64 (a 6), .int .i64 (a 7),
  .int .i64 (b 0), .int .i64 (b 1), .int .i64 (b 2), .int .i64 (b 3), .int .i64 (b 4), .int .i64 (b 5), .int .i64 (b 6), .int .i64 (b 7)]

theorem two_blk (w : World) (X Y : Array Value) (t t' : Nat) : Blk (((w.alloc (.cells X t)).alloc (.cells Y t')).drew) w.heap.size t X ∧ Blk (((w.alloc (.cells X t)).alloc (.cells Y t')).drew) (w.heap.size + 1) t' Y ∧ Below w.heap.size w (((w.alloc (.cells X t)).alloc (.cells Y t')).drew) := by
  refine ⟨((Blk.new _ _ _).alloc _).drew, ?_, (((Below.refl _ _).alloc (Nat.le_refl _) _).alloc (by simp) _).drew⟩
  have h := (Blk.new (w.alloc (.cells X t)) t' Y).drew
  rwa [show (w.alloc (.cells X t)).heap.size = w.heap.size + 1 by simp] at h

theorem _root_.Go.World.ownsRow.drewN {w : World} {base e size n : Nat} {v : Value} {xs : List Value} (h : w.ownsRow base e size v n xs) (m : Nat) : (w.drewN m).ownsRow base e size v n xs := h
/-- Two rows of the call's own, in blocks of their own: one grows, the other stays. -/
theorem app_two {w w' : World} {o : Obj} {base e s n1 n2 : Nat} {v1 v1' v2 : Value} {xs1 xs2 : List Value} (_h1 : w.ownsRow base e s v1 n1 xs1) (h2 : w.ownsRow base e s v2 n2 xs2) (hd : ∀ q, v1.ownBlock = some q → v2.ownBlock ≠ some q)
    (hg : (w.alloc o).grownBy w' v1.ownBlock) (hat : v1'.ownBlock = v1.ownBlock ∨ v1'.ownBlock = some (w.heap.size + 1)) :
    w'.ownsRow base e s v2 n2 xs2 ∧ ∀ q, v1'.ownBlock = some q → v2.ownBlock ≠ some q := by
  refine ⟨(h2.alloc o).kept hg ?_, fun q hq h => ?_⟩
  · cases h : v2.ownBlock with
    | none => exact .inl rfl
    | some q => exact .inr fun he => hd q he.symm h
  · rcases hat with hat | hat
    · exact hd q (hat ▸ hq) h
    · rw [hat] at hq
      injection hq with hq
      have := (h2.lt q h).2
      omega

theorem and63 (n : Int) : ∃ m : Nat, bits .and .i64 n 63 = (m : Int) ∧ m ≤ 63 := by
  refine ⟨(BitVec.ofInt 64 n &&& BitVec.ofInt 64 63).toNat, ?_, ?_⟩
  · have h : (BitVec.ofInt 64 n &&& BitVec.ofInt 64 63).toNat ≤ 63 := by
      rw [BitVec.toNat_and]
      exact Nat.and_le_right
    show IntKind.i64.wrap ((BitVec.ofInt 64 n &&& BitVec.ofInt 64 63).toNat : Int) = _
    rw [IntKind.wrap_i64]
    omega
  · rw [BitVec.toNat_and]
    exact Nat.and_le_right

/-- What the law's last statement leans on, whatever has been called. -/
def TellInv (w0 : World) (B ga gb : Nat) (a b : Nat → Int) (v1 v2 : Value) (n1 n2 : Nat) (l1 l2 : List Int) (wx : World) : Prop :=
  Blk wx ga 31 (C8 a) ∧ Blk wx gb 31 (C8 b) ∧ wx.ownsRow B 3 1 v1 n1 (l1.map (Value.int .i64)) ∧ wx.ownsRow B 3 1 v2 n2 (l2.map (Value.int .i64)) ∧ Below w0.heap.size w0 wx
theorem TellInv.step {w0 : World} {B ga gb : Nat} {a b : Nat → Int} {v1 v2 : Value} {n1 n2 : Nat} {l1 l2 : List Int} {wx wy : World} (h : RowKit.Hid (TellInv w0 B ga gb a b v1 v2 n1 n2 l1 l2 wx)) (hf : Fr wx.heap.size [] wx wy) : RowKit.Hid (TellInv w0 B ga gb a b v1 v2 n1 n2 l1 l2 wy) := by
  obtain ⟨h1, h2, h3, h4, h5⟩ := h
  exact ⟨h1.fr hf h1.lt (by simp), h2.fr hf h2.lt (by simp), ownsRow_fr h3 hf (fun q hq => ⟨(h3.lt q hq).2, by simp⟩), ownsRow_fr h4 hf (fun q hq => ⟨(h4.lt q hq).2, by simp⟩), h5.trans (hf.below.mono h5.size)⟩
theorem TellInv.drew {w0 : World} {B ga gb : Nat} {a b : Nat → Int} {v1 v2 : Value} {n1 n2 : Nat} {l1 l2 : List Int} {wx : World} (h : RowKit.Hid (TellInv w0 B ga gb a b v1 v2 n1 n2 l1 l2 wx)) : RowKit.Hid (TellInv w0 B ga gb a b v1 v2 n1 n2 l1 l2 wx.drew) := by
  obtain ⟨h1, h2, h3, h4, h5⟩ := h
  exact ⟨h1, h2, h3, h4, h5.drew⟩

theorem TellInv.cells {w0 : World} {B ga gb : Nat} {a b : Nat → Int} {v1 v2 : Value} {n1 n2 : Nat} {l1 l2 : List Int} {wx : World} (h : TellInv w0 B ga gb a b v1 v2 n1 n2 l1 l2 wx) {d : Nat} (hd : d < 8) :
    wx.cell? ⟨ga, 0, none⟩ = some (.int .i64 (a 0)) ∧ wx.cell? ⟨ga, 1, none⟩ = some (.int .i64 (a 1)) ∧ wx.cell? ⟨ga, 2, none⟩ = some (.int .i64 (a 2)) ∧ wx.cell? ⟨ga, 3, none⟩ = some (.int .i64 (a 3)) ∧ wx.cell? ⟨ga, 4, none⟩ = some (.int .i64 (a 4)) ∧ wx.cell? ⟨ga, 5, none⟩ = some (.int .i64 (a 5)) ∧ wx.cell? ⟨ga, 6, none⟩ = some (.int .i64 (a 6)) ∧ wx.cell? ⟨ga, 7, none⟩ = some (.int .i64 (a 7)) ∧ wx.cell? ⟨gb, 0, none⟩ = some (.int .i64 (b 0)) ∧ wx.cell? ⟨gb, 1, none⟩ = some (.int .i64 (b 1)) ∧ wx.cell? ⟨gb, 2, none⟩ = some (.int .i64 (b 2)) ∧ wx.cell? ⟨gb, 3, none⟩ = some (.int .i64 (b 3)) ∧ wx.cell? ⟨gb, 4, none⟩ = some (.int .i64 (b 4)) ∧ wx.cell? ⟨gb, 5, none⟩ = some (.int .i64 (b 5)) ∧ wx.cell? ⟨gb, 6, none⟩ = some (.int .i64 (b 6)) ∧ wx.cell? ⟨gb, 7, none⟩ = some (.int .i64 (b 7)) ∧ wx.cell? ⟨ga, d, none⟩ = some (.int .i64 (a d)) := by
  obtain ⟨h1, h2, _⟩ := h
  exact ⟨h1.cell 0, h1.cell 1, h1.cell 2, h1.cell 3, h1.cell 4, h1.cell 5, h1.cell 6, h1.cell 7, h2.cell 0, h2.cell 1, h2.cell 2, h2.cell 3, h2.cell 4, h2.cell 5, h2.cell 6, h2.cell 7, (h1.cell d).trans (C8_get _ hd)⟩

theorem ints_same (A1 A2 : Option Addr) (n1 c1 n2 c2 B1 B2 : Nat) (xs : List Int) (w : World) (h1 : Reads w B1 1 A1 n1 (xs.map (Value.int .i64))) (h2 : Reads w B2 1 A2 n2 (xs.map (Value.int .i64))) (hn1 : n1 ≤ 8) (hn2 : n2 ≤ 8) :
    Calls Try.prog 22 #[.slice A1 n1 c1, .slice A2 n2 c2] w fun e w' => e = .returned (.bool true) ∧ Fr w.heap.size [] w w' := by
  have h := ints_any A1 A2 n1 c1 n2 c2 B1 B2 xs xs w h1 h2 (by unfold maxLen; omega) (by unfold maxLen; omega)
  rwa [show intsEq xs xs = true by simp [intsEq]] at h

set_option maxRecDepth 100000 in
set_option maxHeartbeats 4000000 in
theorem walk_RouteTells (p : Int) (_ : (Lit.int .i64 p).wf = true) (a b : Nat → Int) (n : Int) (_ : (Lit.int .i64 n).wf = true) (w : World) :
    Calls Try.prog 4 #[.int .i64 p, .agg (C16 a b), .int .i64 n] w fun e w' => e = .returned (.bool true) ∧ Below w.heap.size w w' := by
  go_enter Try.func4, Try.ntmps4
  go_upto_region 3 with (go_at_call 18; refine (awake09 _).mono ?_; rintro e w1 ⟨rfl, hb1⟩)
  have hb := (Blk.new w 32 (C16 a b)).below hb1 (by simp)
  have h0 := hb.cell 0
  have h1 := hb.cell 1
  have h2 := hb.cell 2
  have h3 := hb.cell 3
  have h4 := hb.cell 4
  have h5 := hb.cell 5
  have h6 := hb.cell 6
  have h7 := hb.cell 7
  have h8 := hb.cell 8
  have h9 := hb.cell 9
  have h10 := hb.cell 10
  have h11 := hb.cell 11
  have h12 := hb.cell 12
  have h13 := hb.cell 13
  have h14 := hb.cell 14
  have h15 := hb.cell 15
  have hb1' := Lib.hid hb1
  have hsz1 : w.heap.size < w1.heap.size := by have := hb1.size; simp at this; omega
  clear hb hb1
  go_cut [7, 8] (fun s7 s8 wx => ∃ ga gb : Nat, s7 = .pointer (some ⟨ga, 0, none⟩) ∧ s8 = .pointer (some ⟨gb, 0, none⟩) ∧ Blk wx ga 31 (C8 a) ∧ Blk wx gb 31 (C8 b) ∧ w.heap.size < ga ∧ w.heap.size < gb ∧ Below w.heap.size w wx)
  case first =>
    go_region
    · go_wp2_with fail
      go_meet
      obtain ⟨b1, b2, b3⟩ := two_blk w1 (C8 a) (C8 b) 31 31
      exact ⟨_, _, rfl, rfl, b1, b2, hsz1, by omega, ((Below.refl _ _).alloc (Nat.le_refl _) _).trans ((hb1'.out.mono (by simp)).trans (b3.mono (Nat.le_of_lt hsz1)))⟩
    · go_wp2_with fail
      go_meet
      obtain ⟨b1, b2, b3⟩ := two_blk w1 (C8 b) (C8 a) 31 31
      exact ⟨_, _, rfl, rfl, b2, b1, by omega, hsz1, ((Below.refl _ _).alloc (Nat.le_refl _) _).trans ((hb1'.out.mono (by simp)).trans (b3.mono (Nat.le_of_lt hsz1)))⟩
  case rest =>
    obtain ⟨ga, gb, rfl, rfl, ba, bb, ha, hb, hbel⟩ := hcut
    have BA := Lib.hid ba
    have BB := Lib.hid bb
    have BEL := Lib.hid hbel
    clear ba bb hbel h0 h1 h2 h3 h4 h5 h6 h7 h8 h9 h10 h11 h12 h13 h14 h15 hb1' hsz1
    have hga := BA.out.lt
    have hgb := BB.out.lt
    go_wp2_with fail
    go_loopw [9, 10, 11] (fun s1 s2 i wr => ∃ (k n1 n2 c1 c2 : Nat) (A1 A2 : Option Addr), k ≤ 8 ∧ i = .int .i64 k ∧ s1 = .slice A1 n1 c1 ∧ s2 = .slice A2 n2 c2 ∧ n1 ≤ 8 ∧ n2 ≤ 8 ∧ n1 = (someTo (fun j => a j == n) k).length ∧ n2 = (someTo (fun j => a j != b j) k).length ∧
      wr.ownsRow wc.heap.size 3 1 (.slice A1 n1 c1) n1 ((someTo (fun j => a j == n) k).map (Value.int .i64)) ∧ wr.ownsRow wc.heap.size 3 1 (.slice A2 n2 c2) n2 ((someTo (fun j => a j != b j) k).map (Value.int .i64)) ∧
      (∀ q, (Value.slice A1 n1 c1).ownBlock = some q → (Value.slice A2 n2 c2).ownBlock ≠ some q) ∧ Fr wc.heap.size [] wc wr) (fun _ _ i _ => 8 - (intOf i).toNat)
    case atStart => exact ⟨0, 0, 0, 0, 0, none, none, by omega, rfl, rfl, rfl, by omega, by omega, rfl, rfl, (World.ownsRow_nil _ _ _ _ : wc.ownsRow _ _ _ _ 0 []), (World.ownsRow_nil _ _ _ _ : wc.ownsRow _ _ _ _ 0 []), fun q h => by simp [Value.ownBlock] at h, Fr.refl _ _ _⟩
    case round =>
      obtain ⟨k, n1, n2, c1, c2, A1, A2, hk, rfl, rfl, rfl, hn1, hn2, hl1, hl2, ho1, ho2, hd, hfr⟩ := hrel
      have L1 := Lib.hid hl1
      have L2 := Lib.hid hl2
      have DJ := Lib.hid hd
      have HF := Lib.hid hfr
      have hsz := hfr.size
      by_cases hlt : k < 8
      · have hca := (BA.out.fr hfr hga (by simp)).cell k
        rw [C8_get _ hlt] at hca
        have hcb := (BB.out.fr hfr hgb (by simp)).cell k
        rw [C8_get _ hlt] at hcb
        have hki : (k : Int) < 8 := by omega
        have S1 := Lib.hid (someTo_succ (fun j => a j == n) k)
        have S2 := Lib.hid (someTo_succ (fun j => a j != b j) k)
        have hk1 : n1 ≤ k := by rw [hl1]; exact someTo_length _ _
        have hk2 : n2 ≤ k := by rw [hl2]; exact someTo_length _ _
        have O1 := Lib.hid ho1
        have O2 := Lib.hid ho2
        clear hl1 hl2 hd hfr ho1 ho2
        by_cases q1 : (a k == n) = true
        · have ho1 := O1.out
          go_upto_region 10 with (at_builtin; refine wpList_app_lit _ rfl (.tmp 31) (.tmp 33) intsTy rfl wc.heap.size (.slice A1 n1 c1) _ _ rfl ho1 1 1 _ rfl rfl (by simp [Value.oneCell']) (by omega) (by omega) (by omega) ?_; intro A' c' w2 hown2 hg2 hat2)
          have F2 := Lib.hid (HF.out.trans (Fr.of_app hg2 ho1 (by omega)))
          obtain ⟨j1, j2⟩ := app_two ho1 O2.out DJ.out hg2 hat2
          have O2' := Lib.hid j1
          have DJ' := Lib.hid j2
          have hl : someTo (fun j => a j == n) (k + 1) = someTo (fun j => a j == n) k ++ [(k : Int)] := by rw [S1.out]; simp [q1]
          have O1' : RowKit.Hid (w2.ownsRow wc.heap.size 3 1 (.slice A' (n1 + 1) c') (n1 + 1) ((someTo (fun j => a j == n) (k + 1)).map (Value.int .i64))) := by
            show World.ownsRow _ _ _ _ _ _ _
            rw [hl]; simpa using hown2
          have LL1 : RowKit.Hid (n1 + 1 = (someTo (fun j => a j == n) (k + 1)).length) := by
            show _ = _
            rw [hl, List.length_append, ← L1.out]; rfl
          obtain ⟨M1, hM1⟩ : ∃ M1, M1 = n1 + 1 := ⟨_, rfl⟩
          rw [← hM1] at O1' LL1 DJ' ⊢
          have hM2 : M1 ≤ k + 1 := by omega
          generalize A' = X1 at *
          generalize c' = d1 at *
          clear hown2 hg2 hat2 j1 j2 hl ho1 hM1 hca hcb
          have hsz2 := F2.out.size
          have hca2 := (BA.out.fr F2.out hga (by simp)).cell k
          rw [C8_get _ hlt] at hca2
          have hcb2 := (BB.out.fr F2.out hgb (by simp)).cell k
          rw [C8_get _ hlt] at hcb2
          have hm2 : M1 ≤ 8 := by omega
          go_quiet (fail)
          by_cases q2 : (a k != b k) = true
          · have ho2 := O2'.out.drewN nq
            go_wp2_with (at_builtin; refine wpList_app_lit _ rfl (.tmp 42) (.tmp 44) intsTy rfl wc.heap.size (.slice A2 n2 c2) _ _ rfl ho2 1 1 _ rfl rfl (by simp [Value.oneCell']) (by omega) (by omega) (by simp; omega) ?_; intro A'' c'' w3 hown3 hg3 hat3)
            go_roundw
            case rel =>
              obtain ⟨k1, k2⟩ := app_two (O2'.out.drewN nq) (O1'.out.drewN nq) (fun q h h' => DJ'.out q h' h) hg3 hat3
              refine ⟨k + 1, M1, n2 + 1, d1, c'', X1, A'', by omega, by go_num, rfl, rfl, hm2, by omega, ?_, ?_, ?_, ?_, fun q h h' => k2 q h' h, F2.out.trans (((Fr.refl _ _ _).drewN nq).trans (Fr.of_app hg3 (O2'.out.drewN nq) (by simp; omega)))⟩
              · exact LL1.out
              · rw [S2.out]; simp [q2]; exact L2.out
              · exact k1
              · rw [S2.out]; simpa [q2] using hown3
            case measure => simp [intOf]; omega
          · have q2' : (a k != b k) = false := by simpa using q2
            clear q2
            go_wp2_with fail
            go_roundw
            case rel =>
              refine ⟨k + 1, M1, n2, d1, c2, X1, A2, by omega, by go_num, rfl, rfl, hm2, by omega, ?_, ?_, ?_, ?_, DJ'.out, F2.out.drewN nq⟩
              · exact LL1.out
              · rw [S2.out]; simp [q2']; exact L2.out
              · exact O1'.out.drewN nq
              · rw [S2.out]; simpa [q2'] using O2'.out.drewN nq
            case measure => simp [intOf]; omega
        · have q1' : (a k == n) = false := by simpa using q1
          clear q1
          go_upto_region 10 with fail
          obtain ⟨w2, rfl⟩ : ∃ w2 : World, w2 = wr := ⟨_, rfl⟩
          have F2 := HF
          have O2' := O2
          have DJ' := DJ
          have hl : someTo (fun j => a j == n) (k + 1) = someTo (fun j => a j == n) k := by rw [S1.out]; simp [q1']
          have O1' : RowKit.Hid (w2.ownsRow wc.heap.size 3 1 (.slice A1 n1 c1) n1 ((someTo (fun j => a j == n) (k + 1)).map (Value.int .i64))) := by
            show World.ownsRow _ _ _ _ _ _ _
            rw [hl]; exact O1.out
          have LL1 : RowKit.Hid (n1 = (someTo (fun j => a j == n) (k + 1)).length) := by
            show _ = _
            rw [hl, ← L1.out]
          clear hl hca hcb
          generalize A1 = X1 at *
          generalize c1 = d1 at *
          obtain ⟨M1, hM1⟩ : ∃ M1, M1 = n1 := ⟨_, rfl⟩
          rw [← hM1] at O1' LL1 DJ' ⊢
          have hM2 : M1 ≤ k + 1 := by omega
          clear hM1
          have hsz2 := F2.out.size
          have hca2 := (BA.out.fr F2.out hga (by simp)).cell k
          rw [C8_get _ hlt] at hca2
          have hcb2 := (BB.out.fr F2.out hgb (by simp)).cell k
          rw [C8_get _ hlt] at hcb2
          have hm2 : M1 ≤ 8 := by omega
          go_quiet (fail)
          by_cases q2 : (a k != b k) = true
          · have ho2 := O2'.out.drewN nq
            go_wp2_with (at_builtin; refine wpList_app_lit _ rfl (.tmp 42) (.tmp 44) intsTy rfl wc.heap.size (.slice A2 n2 c2) _ _ rfl ho2 1 1 _ rfl rfl (by simp [Value.oneCell']) (by omega) (by omega) (by simp; omega) ?_; intro A'' c'' w3 hown3 hg3 hat3)
            go_roundw
            case rel =>
              obtain ⟨k1, k2⟩ := app_two (O2'.out.drewN nq) (O1'.out.drewN nq) (fun q h h' => DJ'.out q h' h) hg3 hat3
              refine ⟨k + 1, M1, n2 + 1, d1, c'', X1, A'', by omega, by go_num, rfl, rfl, hm2, by omega, ?_, ?_, ?_, ?_, fun q h h' => k2 q h' h, F2.out.trans (((Fr.refl _ _ _).drewN nq).trans (Fr.of_app hg3 (O2'.out.drewN nq) (by simp; omega)))⟩
              · exact LL1.out
              · rw [S2.out]; simp [q2]; exact L2.out
              · exact k1
              · rw [S2.out]; simpa [q2] using hown3
            case measure => simp [intOf]; omega
          · have q2' : (a k != b k) = false := by simpa using q2
            clear q2
            go_wp2_with fail
            go_roundw
            case rel =>
              refine ⟨k + 1, M1, n2, d1, c2, X1, A2, by omega, by go_num, rfl, rfl, hm2, by omega, ?_, ?_, ?_, ?_, DJ'.out, F2.out.drewN nq⟩
              · exact LL1.out
              · rw [S2.out]; simp [q2']; exact L2.out
              · exact O1'.out.drewN nq
              · rw [S2.out]; simpa [q2'] using O2'.out.drewN nq
            case measure => simp [intOf]; omega
      · obtain ⟨wo, rfl⟩ : ∃ wo : World, wo = wr := ⟨_, rfl⟩
        obtain rfl : k = 8 := by omega
        have INV : RowKit.Hid (TellInv w wc.heap.size ga gb a b (.slice A1 n1 c1) (.slice A2 n2 c2) n1 n2 (someTo (fun j => a j == n) 8) (someTo (fun j => a j != b j) 8) wo) :=
          ⟨BA.out.fr hfr hga (by simp), BB.out.fr hfr hgb (by simp), ho1, ho2, BEL.out.trans (hfr.below.mono (by have := BEL.out.size; omega))⟩
        have hn1' : n1 ≤ 8 := by rw [hl1]; exact someTo_length _ _
        have hn2' : n2 ≤ 8 := by rw [hl2]; exact someTo_length _ _
        clear hl1 hl2 hd hfr ho1 ho2 BA BB BEL DJ HF hlt hk hn1 hn2
        have hgow := INV.out.1.lt
        have hgobw := INV.out.2.1.lt
        go_wp2_with fail
        refine (even_any p _).mono ?_
        rintro e w2 ⟨rfl, hf2⟩
        have INV := TellInv.step INV hf2
        obtain ⟨E, hE⟩ : ∃ E, E = evenR p := ⟨_, rfl⟩
        rw [← hE]
        have HE : RowKit.Hid (∀ j : Nat, E j = (j : Int) * clampP p / 8) := fun j => by rw [hE]; rfl
        clear hf2 hE
        go_upto_region 13 with fail
        obtain ⟨w3, hw3⟩ : ∃ w3, w3 = w2.alloc (.cells (C8 E) 31) := ⟨_, rfl⟩
        have hbE : Blk w3 w2.heap.size 31 (C8 E) := by rw [hw3]; exact Blk.new _ _ _
        have INV : RowKit.Hid _ := TellInv.step INV (show Fr w2.heap.size [] w2 w3 by rw [hw3]; exact (Fr.refl _ _ _).alloc (Nat.le_refl _) _)
        rw [← hw3]
        generalize w2.heap.size = ge at *
        clear hw3
        go_cut [13] (fun s wx => s = .int .i64 (clampP p) ∧ wx = w3)
        case first =>
          have hcl : (p < 1 ∧ clampP p = 1) ∨ (p = 1 ∧ clampP p = 1) ∨ (p = 2 ∧ clampP p = 2) ∨ (p = 3 ∧ clampP p = 3) ∨ (3 < p ∧ clampP p = 3) := by
            unfold clampP
            by_cases h1 : p < 1
            · simp [h1]
            · by_cases h2 : 3 < p
              · simp [h1, h2]
              · simp [h1, h2]; omega
          rcases hcl with ⟨h, hq⟩ | ⟨h, hq⟩ | ⟨h, hq⟩ | ⟨h, hq⟩ | ⟨h, hq⟩
          all_goals
            have HQ := Lib.hid hq
            clear hq
            (try subst h)
            go_wp2_with fail
            go_meet
            exact ⟨by rw [HQ.out], rfl⟩
        case rest =>
          obtain ⟨rfl, rfl⟩ := hcut
          have hc : 1 ≤ clampP p ∧ clampP p ≤ 3 := by unfold clampP; split <;> (try split) <;> omega
          obtain ⟨q1, q2⟩ := hc
          generalize clampP p = q at *
          go_wp2_with fail
          go_loop [14] (fun i => ∃ k : Nat, k ≤ 8 ∧ i = .int .i64 k) (fun i => 8 - (intOf i).toNat)
          case atStart => exact ⟨0, by omega, rfl⟩
          case round =>
            obtain ⟨k, hk, rfl⟩ := hrel
            by_cases hlt : k < 8
            · have hcE := hbE.cell k
              rw [C8_get _ hlt] at hcE
              have hki : (k : Int) < 8 := by omega
              have hp1 : 0 ≤ (k : Int) * q := Int.mul_nonneg (by omega) (by omega)
              have hp2 : (k : Int) * q ≤ 24 := Int.le_trans (Int.mul_le_mul (show (k : Int) ≤ 8 by omega) q2 (by omega) (by omega)) (by decide)
              have hv : (E k != (k : Int) * q / 8) = false := by rw [HE.out k]; simp
              have HB := Lib.hid hbE
              clear hbE
              go_wp2_with fail
              go_round
              case rel => exact ⟨k + 1, by omega, by go_num⟩
              case measure => simp [intOf]; omega
            · obtain rfl : k = 8 := by omega
              clear hbE
              obtain ⟨m, hm, hm63⟩ := and63 n
              obtain ⟨d, hdm⟩ : ∃ d, d = m % 8 := ⟨_, rfl⟩
              have hd8 : d < 8 := by omega
              have hmd : (m : Int).tmod 8 = (d : Int) := by rw [Int.tmod_eq_emod_of_nonneg (by omega)]; omega
              have htask : ∀ w', Calls Try.prog 25 #[A8 a, .int .i64 m] w' fun e w'' => e = .returned (.int .i64 (a d)) ∧ Fr w'.heap.size [] w' w'' := fun w' => by
                have h := task_any a m w'
                rwa [show ((m : Int) % 8).toNat = d by omega] at h
              have HT := Lib.hid htask
              have hdi : (d : Int) < 8 := by omega
              clear hdm
              clear htask
              go_wp2_with fail
              clear hm
              have INV := TellInv.drew INV
              go_region_held3 (fun wx => wx.cell? ⟨ga, 0, none⟩ = some (.int .i64 (a 0)) ∧ wx.cell? ⟨ga, 1, none⟩ = some (.int .i64 (a 1)) ∧ wx.cell? ⟨ga, 2, none⟩ = some (.int .i64 (a 2)) ∧ wx.cell? ⟨ga, 3, none⟩ = some (.int .i64 (a 3)) ∧ wx.cell? ⟨ga, 4, none⟩ = some (.int .i64 (a 4)) ∧ wx.cell? ⟨ga, 5, none⟩ = some (.int .i64 (a 5)) ∧ wx.cell? ⟨ga, 6, none⟩ = some (.int .i64 (a 6)) ∧ wx.cell? ⟨ga, 7, none⟩ = some (.int .i64 (a 7)) ∧ wx.cell? ⟨gb, 0, none⟩ = some (.int .i64 (b 0)) ∧ wx.cell? ⟨gb, 1, none⟩ = some (.int .i64 (b 1)) ∧ wx.cell? ⟨gb, 2, none⟩ = some (.int .i64 (b 2)) ∧ wx.cell? ⟨gb, 3, none⟩ = some (.int .i64 (b 3)) ∧ wx.cell? ⟨gb, 4, none⟩ = some (.int .i64 (b 4)) ∧ wx.cell? ⟨gb, 5, none⟩ = some (.int .i64 (b 5)) ∧ wx.cell? ⟨gb, 6, none⟩ = some (.int .i64 (b 6)) ∧ wx.cell? ⟨gb, 7, none⟩ = some (.int .i64 (b 7)) ∧ wx.cell? ⟨ga, d, none⟩ = some (.int .i64 (a d))) (exact TellInv.cells INV.out hd8)
                (first
                  | (go_at_call 20; refine (right_any p a _).mono ?_; rintro e w' ⟨rfl, hf⟩; have INV := TellInv.step INV hf; clear hf)
                  | (go_at_call 21; refine (lright_any p a _).mono ?_; rintro e w' ⟨rfl, hf⟩; have INV := TellInv.step INV hf; clear hf)
                  | (go_at_call 23; refine (groups_any a n _).mono ?_; rintro e w' ⟨AG, cG, rfl, hown, hf⟩; have INV := TellInv.step INV hf; have GR := Lib.hid (Reads.of_own hown); clear hf hown)
                  | (go_at_call 24; refine (moves_any a b _).mono ?_; rintro e w' ⟨AM, cM, rfl, hown, hf⟩; have INV := TellInv.step INV hf; have MR := Lib.hid (Reads.of_own hown); clear hf hown)
                  | (go_at_call 22; refine (ints_same _ _ _ _ _ _ _ _ _ _ MR.out (Reads.of_own INV.out.2.2.2.1) (someTo_length _ _) hn2').mono ?_; rintro e w' ⟨rfl, hf⟩; have INV := TellInv.step INV hf; clear hf)
                  | (go_at_call 22; refine (ints_same _ _ _ _ _ _ _ _ _ _ GR.out (Reads.of_own INV.out.2.2.1) (someTo_length _ _) hn1').mono ?_; rintro e w' ⟨rfl, hf⟩; have INV := TellInv.step INV hf; clear hf GR)
                  | (go_at_call 25; refine (HT.out _).mono ?_; rintro e w' ⟨rfl, hf⟩; have INV := TellInv.step INV hf; clear hf))
              all_goals
                go_wp2_with fail
                go_ret
                exact ⟨rfl, INV.out.2.2.2.2⟩
end Go.Proofs.Ytkmkdodhahcpdaa
