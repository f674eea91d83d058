/- forebaylaw18.SourceAgain. -/
import Derived.Test.YtkmpcddhbdndkaaSrcG
namespace Go.Proofs.Ytkmpcddhbdndkaa
open Go.RowKit Go.Fb
theorem reads_pre {w : World} {B n b : Nat} {A : Option Addr} {l : List (Nat → Int)} (h : Reads w B 3 A n (cellsR l)) (hn : n = l.length) (hb : b ≤ n) : Reads w B 3 A b (cellsR (l.take b)) := by
  refine ⟨by rw [cellsR_length]; simp; omega, fun h0 => ?_⟩
  obtain ⟨g, off, e, hb', hc⟩ := h.2 (by omega)
  refine ⟨g, off, e, hb', fun j u hu => hc j u ?_⟩
  have hs : cellsR l = cellsR (l.take b) ++ cellsR (l.drop b) := by
    unfold cellsR
    rw [← List.flatMap_append, List.take_append_drop]
  rw [hs, List.getElem?_append_left]
  · exact hu
  · rcases Nat.lt_or_ge j (cellsR (l.take b)).length with h' | h'
    · exact h'
    · rw [List.getElem?_eq_none h'] at hu; cases hu
theorem Sr.fr_low {base gs gp : Nat} {l : List (Nat → Int)} {at_ : Int} {V : Value} {w w' : World} {B : Nat} (h : Sr base gs gp l at_ V w) (hf : Fr B [] w w') (h1 : gs < B) (h2 : gp < B) (h3 : ∀ b, V.ownBlock = some b → b < B) : Sr base gs gp l at_ V w' :=
  ⟨h.st.fr hf h1 (by simp), h.pt.fr hf h2 (by simp), ownsRow_fr h.own hf (fun q hq => ⟨h3 q hq, by simp⟩), h.off, h.low⟩
set_option maxRecDepth 100000 in
set_option maxHeartbeats 4000000 in
theorem walk_SourceAgain (A : Option Addr) (c : Nat) (xs : List (Nat → Int)) (hnc : xs.length ≤ c) (c0 c1 : Nat) (h0 : c0 ≤ 255) (h1 : c1 ≤ 255) (w : World) (hr : Reads w w.heap.size 3 A xs.length (cellsR xs)) :
    Calls Try.prog 4 #[.slice A xs.length c, .agg #[.int .u8 c0, .int .u8 c1]] w fun e w' => e = .returned (.bool true) ∧ Below w.heap.size w w' := by
  have HA := Lib.hid awake18
  have HR := Lib.hid hr
  obtain ⟨n, hn⟩ : ∃ n, n = xs.length := ⟨_, rfl⟩
  have HN := Lib.hid hn
  rw [← hn] at hnc ⊢
  clear hr hn
  go_enter Try.func4, Try.ntmps4
  go_wp2_with fail
  have B0 := Lib.hid (Blk.new w 47 #[.int .u8 c0, .int .u8 c1])
  have F0 := Lib.hid ((Fr.refl w.heap.size [] w).alloc (Nat.le_refl _) (.cells #[.int .u8 c0, .int .u8 c1] 47))
  generalize w.alloc _ = w0 at *
  refine (HA.out _).mono ?_
  rintro e w1 ⟨rfl, f1⟩
  have B1 := Lib.hid (B0.out.fr f1 B0.out.lt (by simp))
  have F1 := Lib.hid (F0.out.trans (f1.mono F0.out.size (by simp)))
  clear f1
  by_cases hl : 100 < n
  · go_wp2_with fail
    go_ret
    exact ⟨rfl, F1.out.below⟩
  go_wp2_with fail
  refine (snew1 _).mono ?_
  rintro e w2 ⟨gs, gp, rfl, s2, f2⟩
  have S2 := Lib.hid s2
  have B2 := Lib.hid (B1.out.fr f2 B1.out.lt (by simp))
  have F2 := Lib.hid (F1.out.trans (f2.mono F1.out.size (by simp)))
  have hlow := s2.low
  have hw1 := F1.out.size
  have hw2 := F2.out.size
  have hb1 := B1.out.lt
  clear s2 f2
  have happ := append1 S2.out (by have := S2.out.pt.lt; omega) xs A c (by rw [← HN.out]; simp; omega) ((HR.out.fr F2.out (Nat.le_refl _) (by simp)).more hw2) (fun h0 ad e => by
    obtain ⟨b, off, e', hb', _⟩ := HR.out.2 h0
    rw [e] at e'
    injection e' with e'
    subst e'
    exact ⟨by show b ≠ gp; omega, by simp [Value.ownBlock]⟩)
  rw [← HN.out] at happ
  have HAPP := Lib.hid happ
  clear happ
  go_wp2_with fail
  refine HAPP.out.mono ?_
  rintro e w3 ⟨V, rfl, s3, f3, hv⟩
  have hGn : goodN xs ≤ n := by rw [HN.out]; exact goodN_le xs
  obtain ⟨G, hG⟩ : ∃ G, G = goodN xs := ⟨_, rfl⟩
  rw [← hG] at s3 hGn ⊢
  rw [List.nil_append] at s3
  have f3' : Fr w2.heap.size [gp] w2 w3 := f3
  have F3 : RowKit.Hid (Fr w.heap.size [] w w3) := F2.out.trans (f3'.mono hw2 (fun k hk hlt => by simp at hk; omega))
  have B3 := Lib.hid (B2.out.fr f3' B2.out.lt (by simp; omega))
  obtain ⟨l, hl'⟩ : ∃ l, l = xs.take G := ⟨_, rfl⟩
  rw [← hl'] at s3
  have hlG : l.length = G := by rw [hl', List.length_take, ← HN.out]; omega
  have HL := Lib.hid hl'
  have HLG := Lib.hid hlG
  have S3 : RowKit.Hid (Sr w1.heap.size gs gp l ((0 : Nat) : Int) V w3) := s3
  have hvb := Lib.hid (fun b hb => (s3.own.lt b hb).2)
  have hgp3 := s3.pt.lt
  have hgs3 := s3.st.lt
  have ha0 := B3.out.cell 0
  have ha1 := B3.out.cell 1
  simp at ha0 ha1
  clear f3 f3' hv s3 HAPP hl' hlG hG B0 B1 B2 F0 F1 F2 S2
  generalize (if G = n then (0 : Int) else 1) = code at *
  go_upto_region 11 with fail
  generalize he9 : ((if c1 < c0 then (c1 : Int) else (c0 : Int)) % ((G : Int) + 1)) = e9 at *
  generalize he5 : ((if c0 < c1 then (c1 : Int) else (c0 : Int)) % ((G : Int) + 1)) = e5 at *
  have k9 : 0 ≤ e9 ∧ e9 ≤ G := by rw [← he9]; have := Int.emod_nonneg (if c1 < c0 then (c1 : Int) else (c0 : Int)) (show (G : Int) + 1 ≠ 0 by omega); have := Int.emod_lt_of_pos (if c1 < c0 then (c1 : Int) else (c0 : Int)) (show 0 < (G : Int) + 1 by omega); omega
  have k5 : 0 ≤ e5 ∧ e5 ≤ G := by rw [← he5]; have := Int.emod_nonneg (if c0 < c1 then (c1 : Int) else (c0 : Int)) (show (G : Int) + 1 ≠ 0 by omega); have := Int.emod_lt_of_pos (if c0 < c1 then (c1 : Int) else (c0 : Int)) (show 0 < (G : Int) + 1 by omega); omega
  generalize he10 : (if e9 < e5 then e5 else e9) = e10 at *
  have k10 : e9 ≤ e10 ∧ e10 ≤ G := by rw [← he10]; split <;> omega
  obtain ⟨a, rfl⟩ := Int.eq_ofNat_of_zero_le k9.1
  obtain ⟨b, rfl⟩ := Int.eq_ofNat_of_zero_le (show 0 ≤ e10 by omega)
  have hab : a ≤ b := by omega
  have hbG : b ≤ G := by omega
  clear he9 he5 he10 k9 k5 k10 ha0 ha1
  generalize (if c1 < c0 then (c1 : Int) else (c0 : Int)) = z1 at *
  generalize (if c0 < c1 then (c1 : Int) else (c0 : Int)) = z2 at *
  have F3z := F3.out.size
  go_wp2_with fail
  go_loopw [11, 12] (fun s i wr => ∃ (k : Nat) (Ag : Option Addr) (cg : Nat), k ≤ b ∧ i = .int .i64 k ∧ s = .slice Ag k cg ∧ RowKit.Hid (Sr w1.heap.size gs gp l (k : Int) V wr) ∧ RowKit.Hid (wr.ownsRow w3.heap.size 59 3 (.slice Ag k cg) k (cellsR (l.take k))) ∧ RowKit.Hid (Fr w3.heap.size [gp] w3 wr)) (fun _ i _ => b - (intOf i).toNat)
  case atStart => exact ⟨0, none, 0, by omega, rfl, rfl, S3, (World.ownsRow_nil _ _ _ _ : w3.ownsRow _ _ _ _ 0 []), Fr.refl _ _ _⟩
  case round =>
    obtain ⟨k, Ag, cg, hk, rfl, rfl, HS, HO, HF⟩ := hrel
    by_cases hkb : k < b
    · have hkl : k < l.length := by rw [HLG.out]; omega
      obtain ⟨x, hx⟩ : ∃ x, l[k]? = some x := ⟨l[k], List.getElem?_eq_getElem hkl⟩
      have htk : l.take (k + 1) = l.take k ++ [x] := by rw [List.take_add_one, hx]; rfl
      have HRD := Lib.hid (read1 HS.out (by rw [HLG.out]; omega) hx)
      have HTK := Lib.hid htk
      have hsz := HF.out.size
      clear hx htk hkl
      go_wp2_with fail
      refine HRD.out.mono ?_
      rintro e w5 ⟨rfl, s5, f5⟩
      have S5 := Lib.hid s5
      have O5 := Lib.hid (ownsRow_fr HO.out f5 (fun q hq => ⟨(HO.out.lt q hq).2, by have := (HO.out.lt q hq).1; simp; omega⟩))
      have F5 := Lib.hid (HF.out.trans (f5.mono (B' := w3.heap.size) (L' := [gp]) hsz (fun _ h _ => h)))
      clear s5 f5
      have hs5 := F5.out.size
      go_upto_region 18 with fail
      have bx := Blk.new w5 59 (recA x)
      have S6 : RowKit.Hid _ := S5.out.keep ((Fr.refl _ _ _).alloc (Nat.le_refl _) (.cells (recA x) 59))
      have ho6 := O5.out.alloc (.cells (recA x) 59)
      have F6 := Lib.hid (F5.out.alloc hs5 (.cells (recA x) 59))
      generalize w5.alloc _ = w6 at *
      have hs6 := F6.out.size
      have x0 := bx.cell 0
      have x1 := bx.cell 1
      have x2 := bx.cell 2
      simp at x0 x1 x2
      clear bx
      go_wp2_with (at_builtin; refine wpList_app_lit _ rfl (.tmp 69) (.tmp 71) recTy rfl w3.heap.size (.slice Ag k cg) _ _ rfl ho6 1 1 _ rfl rfl (by simp [Value.oneCell']) (by omega) (by omega) (by omega) ?_; intro A7 c7 w7 hown7 hg7 hat7)
      go_roundw
      case rel =>
        have hf7 := Fr.of_app hg7 ho6 hs6
        refine ⟨k + 1, A7, c7, by omega, by go_num, rfl, S6.out.fr_low hf7 hgs3 hgp3 hvb.out, ?_, F6.out.trans (hf7.mono (B' := w3.heap.size) (L' := [gp]) (Nat.le_refl _) (by simp))⟩
        show World.ownsRow _ _ _ _ _ _ _
        rw [HTK.out]
        simpa [cellsR, recC] using hown7
      case measure => simp [intOf]; omega
    · obtain rfl : b = k := by omega
      generalize wr = w8 at *
      have HS8 := HS
      have HO8 := HO
      have HF8 := HF
      have hsz8 := HF8.out.size
      clear HS HO HF
      go_wp2_with fail
      have i9 := Blk.new w8 3 #[.int .i64 (a : Int)]
      have f9 := (Fr.refl w8.heap.size [] w8).alloc (Nat.le_refl _) (.cells #[.int .i64 (a : Int)] 3)
      have hgp8 := HS8.out.pt.lt
      have ho9 := Lib.hid (HO8.out.alloc (.cells #[.int .i64 (a : Int)] 3))
      have hF9 := Lib.hid (HF8.out.alloc hsz8 (.cells #[.int .i64 (a : Int)] 3))
      generalize w8.alloc _ = w9 at *
      have r9 : Reads w9 w9.heap.size 1 (some ⟨w8.heap.size, 0, none⟩) 1 [.int .i64 (a : Int)] := (Reads.of_blk i9 rfl).more i9.lt
      have HSK := Lib.hid (seek1 (HS8.out.keep f9) a (by rw [HLG.out]; omega) (some ⟨w8.heap.size, 0, none⟩) 1 r9 (fun ad e => by
        injection e with e
        subst e
        show w8.heap.size ≠ gp
        omega))
      have hs9 := hF9.out.size
      clear i9 f9 r9
      refine HSK.out.mono ?_
      rintro e w10 ⟨rfl, s10, f10⟩
      have S10 := Lib.hid s10
      have O10 := Lib.hid (ownsRow_fr ho9.out f10 (fun q hq => ⟨(ho9.out.lt q hq).2, by have := (ho9.out.lt q hq).1; simp; omega⟩))
      have F10 := Lib.hid (hF9.out.trans (f10.mono (B' := w3.heap.size) (L' := [gp]) hs9 (fun _ h _ => h)))
      have hs10 := F10.out.size
      clear s10 f10 HSK
      have hlf := left1 S10.out (by rw [HLG.out]; omega) (by rw [HLG.out]; omega)
      rw [HLG.out] at hlf
      have HLF := Lib.hid hlf
      clear hlf
      go_wp2_with fail
      refine HLF.out.mono ?_
      rintro e w11 ⟨rfl, f11⟩
      have S11 : RowKit.Hid _ := S10.out.keep f11
      have O11 := Lib.hid (ownsRow_fr O10.out f11 (fun q hq => ⟨(O10.out.lt q hq).2, by simp⟩))
      have F11 := Lib.hid (F10.out.trans (f11.mono (B' := w3.heap.size) (L' := [gp]) hs10 (by simp)))
      clear f11 HLF
      go_wp2_with fail
      go_loopw [15] (fun i wr => ∃ k : Nat, a ≤ k ∧ k ≤ b ∧ i = .int .i64 k ∧ RowKit.Hid (Sr w1.heap.size gs gp l (k : Int) V wr) ∧ RowKit.Hid (wr.ownsRow w3.heap.size 59 3 (.slice Ag b cg) b (cellsR (l.take b))) ∧ RowKit.Hid (Fr w3.heap.size [gp] w3 wr)) (fun i _ => b - (intOf i).toNat)
      case atStart => exact ⟨a, by omega, by omega, rfl, S11, O11, F11⟩
      case round =>
        obtain ⟨k, hak, hkb2, rfl, HS, HO, HF⟩ := hrel
        by_cases hkb3 : k < b
        · have hkl : k < l.length := by rw [HLG.out]; omega
          obtain ⟨x, hx⟩ : ∃ x, l[k]? = some x := ⟨l[k], List.getElem?_eq_getElem hkl⟩
          have hlb : (l.take b).length = b := by rw [List.length_take, HLG.out]; omega
          have hxt : (l.take b)[k]? = some x := by rw [List.getElem?_take_of_lt hkb3]; exact hx
          have HRD := Lib.hid (read1 HS.out (by rw [HLG.out]; omega) hx)
          have hsz := HF.out.size
          clear hx hkl
          go_wp2_with fail
          refine HRD.out.mono ?_
          rintro e w5 ⟨rfl, s5, f5⟩
          have S5 := Lib.hid s5
          have O5 := Lib.hid (ownsRow_fr HO.out f5 (fun q hq => ⟨(HO.out.lt q hq).2, by have := (HO.out.lt q hq).1; simp; omega⟩))
          have F5 := Lib.hid (HF.out.trans (f5.mono (B' := w3.heap.size) (L' := [gp]) hsz (fun _ h _ => h)))
          clear s5 f5
          have hs5 := F5.out.size
          go_upto_region 25 with fail
          have bx := Blk.new w5 59 (recA x)
          have S6 : RowKit.Hid _ := S5.out.keep ((Fr.refl _ _ _).alloc (Nat.le_refl _) (.cells (recA x) 59))
          have O6 := Lib.hid (O5.out.alloc (.cells (recA x) 59))
          have F6 := Lib.hid (F5.out.alloc hs5 (.cells (recA x) 59))
          generalize w5.alloc _ = w6 at *
          have x0 := bx.cell 0
          have x1 := bx.cell 1
          have x2 := bx.cell 2
          simp at x0 x1 x2
          obtain ⟨b1, o1, rfl, hb1', hc1⟩ := reads_rec (by rw [hlb]; exact Reads.of_own O6.out) hxt
          have p0 := hc1 0 (by omega)
          have p1 := hc1 1 (by omega)
          have p2 := hc1 2 (by omega)
          simp only [Nat.add_zero, ← Nat.add_assoc] at p0 p1 p2
          have hki : (k : Int) < (b : Int) := by omega
          have hnq := fun w => recs_one_neq (x 0) (x 1) (x 2) w
          clear bx hc1 hxt hlb
          go_quiet (fail)
          go_wp2_with fail
          go_roundw
          case rel => exact ⟨k + 1, by omega, by omega, by go_num, S6.out.keep ((Fr.refl _ _ _).drewN nq), O6.out, F6.out.drewN nq⟩
          case measure => simp [intOf]; omega
        · obtain rfl : b = k := by omega
          generalize wr = w12 at *
          have HS12 := HS
          have HO12 := HO
          have HF12 := HF
          have hsz12 := HF12.out.size
          clear HS HO HF HS8 HO8 HF8 S10 O10 F10 S11 O11 F11 ho9 hF9
          go_wp2_with fail
          have i13 := Blk.new w12 3 #[.int .i64 (a : Int)]
          have f13 := (Fr.refl w12.heap.size [] w12).alloc (Nat.le_refl _) (.cells #[.int .i64 (a : Int)] 3)
          have S13 : RowKit.Hid _ := HS12.out.keep f13
          have O13 := Lib.hid (HO12.out.alloc (.cells #[.int .i64 (a : Int)] 3))
          have F13 := Lib.hid (HF12.out.alloc hsz12 (.cells #[.int .i64 (a : Int)] 3))
          generalize w12.alloc _ = w13 at *
          have hbt := between1 S13.out (by rw [HLG.out]; omega) (.slice none 0 0) (.slice (some ⟨w12.heap.size, 0, none⟩) 1 1) 0 a (Nat.zero_le _) (by rw [HLG.out]; omega) (.inl ⟨rfl, rfl⟩) (.inr ⟨_, _, rfl, (Reads.of_blk i13 rfl).more i13.lt⟩)
          rw [Nat.sub_zero, List.drop_zero] at hbt
          have HBT := Lib.hid hbt
          have hs13 := F13.out.size
          clear i13 f13 hbt
          refine HBT.out.mono ?_
          rintro e w14 ⟨A14, c14, rfl, ho14, f14⟩
          have P14 := Lib.hid ho14
          have S14 : RowKit.Hid _ := S13.out.keep f14
          have O14 := Lib.hid (ownsRow_fr O13.out f14 (fun q hq => ⟨(O13.out.lt q hq).2, by simp⟩))
          have F14 := Lib.hid (F13.out.trans (f14.mono (B' := w3.heap.size) (L' := [gp]) hs13 (by simp)))
          have hs14 := f14.size
          clear ho14 f14 HBT
          go_wp2_with fail
          have i15 := (Blk.new w14 3 #[.int .i64 (a : Int)]).alloc (.cells #[.int .i64 (b : Int)] 3)
          have j15 := Blk.new (w14.alloc (.cells #[.int .i64 (a : Int)] 3)) 3 #[.int .i64 (b : Int)]
          rw [show (w14.alloc (.cells #[.int .i64 (a : Int)] 3)).heap.size = w14.heap.size + 1 by simp] at j15
          have f15 := ((Fr.refl w14.heap.size [] w14).alloc (Nat.le_refl _) (.cells #[.int .i64 (a : Int)] 3)).alloc (by simp) (.cells #[.int .i64 (b : Int)] 3)
          generalize (w14.alloc _).alloc _ = w15 at *
          have S15 : RowKit.Hid _ := S14.out.keep f15
          have O15 := Lib.hid (ownsRow_fr O14.out f15 (fun q hq => ⟨(O14.out.lt q hq).2, by simp⟩))
          have P15 := Lib.hid (ownsRow_fr P14.out f15 (fun q hq => ⟨(P14.out.lt q hq).2, by simp⟩))
          have F15 := Lib.hid (F14.out.trans (f15.mono (B' := w3.heap.size) (L' := [gp]) (by omega) (by simp)))
          have hs15 := f15.size
          have HB2 := Lib.hid (between1 S15.out (by rw [HLG.out]; omega) (.slice (some ⟨w14.heap.size, 0, none⟩) 1 1) (.slice (some ⟨w14.heap.size + 1, 0, none⟩) 1 1) a b hab (by rw [HLG.out]; omega)
            (.inr ⟨_, _, rfl, (Reads.of_blk i15 rfl).more i15.lt⟩) (.inr ⟨_, _, rfl, (Reads.of_blk j15 rfl).more j15.lt⟩))
          clear i15 j15 f15
          refine HB2.out.mono ?_
          rintro e w16 ⟨A16, c16, rfl, ho16, f16⟩
          have Q16 := Lib.hid (Reads.of_own ho16)
          have S16 : RowKit.Hid _ := S15.out.keep f16
          have O16 := Lib.hid (ownsRow_fr O15.out f16 (fun q hq => ⟨(O15.out.lt q hq).2, by simp⟩))
          have P16 := ownsRow_fr P15.out f16 (fun q hq => ⟨(P15.out.lt q hq).2, by simp⟩)
          have F16 := Lib.hid (F15.out.trans (f16.mono (B' := w3.heap.size) (L' := [gp]) (by omega) (by simp)))
          have hs16 := f16.size
          clear ho16 f16 HB2
          have habb : a + (b - a) = b := by omega
          have hcat : cellsR (l.take a) ++ cellsR ((l.take b).drop a) = cellsR (l.take b) := by
            unfold cellsR
            rw [← List.flatMap_append]
            congr 1
            have := List.take_append_drop a (l.take b)
            rw [List.take_take, Nat.min_eq_left hab] at this
            exact this
          have hob := O16.out.lt
          go_wp2_with (at_builtin; refine wpList_app _ rfl (.tmp 110) (.tmp 116) recTy rfl w13.heap.size (.slice A14 a c14) a (cellsR (l.take a)) rfl P16 w16.heap.size A16 (b - a) c16 (cellsR ((l.take b).drop a)) rfl Q16.out recC_one (by omega) (by omega) (by omega) ?_; intro A17 c17 w17 hown17 hg17 hat17; rw [hcat, habb] at hown17; rw [habb])
          have f17 : Fr w13.heap.size [] w16 w17 := (Fr.refl _ _ _).grown hg17 (by omega) (fun q hq => .inl (P16.lt q hq).1)
          have S17 : RowKit.Hid _ := S16.out.fr_low f17 (by omega) (by omega) (fun q hq => by have := hvb.out q hq; omega)
          have O17 := Lib.hid (ownsRow_fr O16.out f17 (fun q hq => ⟨(O13.out.lt q hq).2, by simp⟩))
          have F17 := Lib.hid (F16.out.trans (f17.mono (B' := w3.heap.size) (L' := [gp]) hs13 (by simp)))
          have hlb : (l.take b).length = b := by rw [List.length_take, HLG.out]; omega
          have hxb : l.take b = xs.take b := by rw [HL.out, List.take_take, Nat.min_eq_left hbG]
          have hFw : Fr w.heap.size [] w w17 := F3.out.trans (F17.out.mono (B' := w.heap.size) (L' := []) F3z (fun q hq hlt => by simp at hq; omega))
          have hxr := HR.out.fr hFw (Nat.le_refl _) (by simp)
          rw [← HN.out] at hxr
          have hpre := reads_pre hxr HN.out (b := b) (by omega)
          rw [← hxb] at hpre
          have HRC := Lib.hid (recs_yes (c1 := c17) (c2 := c) hlb.symm (Reads.of_own hown17) hpre (by omega))
          have HLB := Lib.hid hlb
          have hs17 := F17.out.size
          clear hown17 hg17 hat17 P16 f17 hlb hxb hxr hpre hFw hcat habb hob
          refine HRC.out.mono ?_
          rintro e w18 ⟨rfl, f18⟩
          have S18 : RowKit.Hid _ := S17.out.keep f18
          have O18 := Lib.hid (ownsRow_fr O17.out f18 (fun q hq => ⟨(O17.out.lt q hq).2, by simp⟩))
          have F18 := Lib.hid (F17.out.trans (f18.mono (B' := w3.heap.size) (L' := [gp]) hs17 (by simp)))
          have hs18 := F18.out.size
          clear f18 HRC
          go_wp2_with fail
          have i19 := Blk.new w18 3 #[.int .i64 (b : Int)]
          have f19 := (Fr.refl w18.heap.size [] w18).alloc (Nat.le_refl _) (.cells #[.int .i64 (b : Int)] 3)
          have S19 : RowKit.Hid _ := S18.out.keep f19
          have O19 := Lib.hid (O18.out.alloc (.cells #[.int .i64 (b : Int)] 3))
          have F19 := Lib.hid (F18.out.alloc hs18 (.cells #[.int .i64 (b : Int)] 3))
          generalize w18.alloc _ = w19 at *
          have HUP := Lib.hid (upto1 S19.out (by rw [HLG.out]; omega) (.slice (some ⟨w18.heap.size, 0, none⟩) 1 1) b (by rw [HLG.out]; omega) (.inr ⟨_, _, rfl, (Reads.of_blk i19 rfl).more i19.lt⟩))
          have hs19 := F19.out.size
          clear i19 f19
          refine HUP.out.mono ?_
          rintro e w20 ⟨A20, c20, rfl, ho20, f20⟩
          have O20 := ownsRow_fr O19.out f20 (fun q hq => ⟨(O19.out.lt q hq).2, by simp⟩)
          have F20 := Lib.hid (F19.out.trans (f20.mono (B' := w3.heap.size) (L' := [gp]) hs19 (by simp)))
          have HRC := Lib.hid (recs_yes (c1 := c20) (c2 := cg) HLB.out.symm (Reads.of_own ho20) (Reads.of_own O20) (by omega))
          have hs20 := F20.out.size
          clear ho20 f20 O20 HUP
          go_wp2_with fail
          refine HRC.out.mono ?_
          rintro e w21 ⟨rfl, f21⟩
          have F21 := F20.out.trans (f21.mono (B' := w3.heap.size) (L' := [gp]) hs20 (by simp))
          have FW := Lib.hid (F3.out.trans (F21.mono (B' := w.heap.size) (L' := []) F3z (fun q hq hlt => by simp at hq; omega)))
          clear f21 F21 HRC
          go_wp2_with fail
          go_ret
          exact ⟨rfl, FW.out.below⟩
end Go.Proofs.Ytkmpcddhbdndkaa
