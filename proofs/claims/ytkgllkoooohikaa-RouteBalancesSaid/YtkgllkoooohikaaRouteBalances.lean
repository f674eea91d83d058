/- forebaylaw09.RouteBalances. -/
import Derived.Test.YtkgllkoooohikaaBalance
import Derived.Test.YtkgllkoooohikaaRouteD
import Derived.Deep.DeepCutAuto
namespace Go.Proofs.Ytkgllkoooohikaa
open Go.RowKit Go.Fb
theorem some_mem {p : Nat → Bool} {n : Nat} {x : Int} : x ∈ someTo p n ↔ ∃ k, k < n ∧ x = (k : Int) ∧ p k = true := by
  unfold someTo
  constructor
  · intro h
    obtain ⟨k, hk, rfl⟩ := List.mem_map.1 h
    rw [List.mem_filter] at hk
    exact ⟨k, by simpa using hk.1, rfl, hk.2⟩
  · rintro ⟨k, hk, rfl, hp⟩
    exact List.mem_map.2 ⟨k, List.mem_filter.2 ⟨by simpa using hk, hp⟩, rfl⟩
/-- A sum of the first n. -/
def sumTo (f : Nat → Int) : Nat → Int
  | 0 => 0
  | n + 1 => sumTo f n + f n
theorem sumTo_range {f : Nat → Int} {M : Int} (h : ∀ g, 0 ≤ f g ∧ f g ≤ M) (n : Nat) : 0 ≤ sumTo f n ∧ sumTo f n ≤ n * M := by
  induction n with
  | zero => simp [sumTo]
  | succ n ih =>
    have := h n
    unfold sumTo
    rw [show ((n + 1 : Nat) : Int) * M = n * M + M by push_cast; rw [Int.add_mul, Int.one_mul]]
    omega
/-- The heaviest of a list's first n. -/
def maxTo (W : Nat → Int) (L : List Int) : Nat → Int
  | 0 => 0
  | n + 1 => max (maxTo W L n) (W (L.getD n 0).toNat)
theorem maxTo_range {W : Nat → Int} {M : Int} (h : ∀ g, 0 ≤ W g ∧ W g ≤ M) (hM : 0 ≤ M) (L : List Int) (n : Nat) : 0 ≤ maxTo W L n ∧ maxTo W L n ≤ M := by
  induction n with
  | zero => exact ⟨Int.le_refl _, hM⟩
  | succ n ih =>
    have := h (L.getD n 0).toNat
    unfold maxTo
    omega
theorem maxTo_ge {W : Nat → Int} (L : List Int) (n k : Nat) (hk : k < n) : W (L.getD k 0).toNat ≤ maxTo W L n := by
  induction n with
  | zero => omega
  | succ n ih =>
    unfold maxTo
    by_cases e : k = n
    · subst e; omega
    · have := ih (by omega); omega
theorem maxTo_mem {W : Nat → Int} (L : List Int) (g : Nat) (h : (g : Int) ∈ L) : W g ≤ maxTo W L L.length := by
  obtain ⟨k, hk, e⟩ := List.getElem_of_mem h
  have := maxTo_ge (W := W) L L.length k hk
  rw [List.getD_eq_getElem?_getD, List.getElem?_eq_getElem hk, e] at this
  simpa using this
/-- What the law asks of a balanced route. -/
structure Fair (p : Nat) (W r H : Nat → Int) : Prop where
  right : right8 p r = true
  load : H = loadOf W r 8
  far : ∀ t, p ≤ t → H t = 0
  fair : ∀ t u, t < p → u < p → H t ≤ H u ∨ ∃ g, g < 8 ∧ r g = t ∧ H t ≤ H u + W g
  all : sumTo H 3 = sumTo W 8
  range : ∀ t, 0 ≤ H t ∧ H t ≤ 8388608
theorem fair_of {p : Nat} (hp : 1 ≤ p ∧ p ≤ 3) {s : Nat → Int} {xs : List Int} (h : ∃ j, St (cmpW s) [0, 1, 2, 3, 4, 5, 6, 7] 8 j xs) :
    Fair p (dealW s) (dealS p (dealW s) (deckP xs) 8).r (loadOf (dealW s) (dealS p (dealW s) (deckP xs) 8).r 8) := by
  have D := deck_of h
  have I := dealS_inv p (by omega) (dealW s) (dealW_range s) (deckP xs) (deck_inj D) (deck_lt D) 8 (Nat.le_refl _)
  have hl := dealS_load I (deck_onto (onto_of h))
  generalize dealS p (dealW s) (deckP xs) 8 = S at *
  have he : loadOf (dealW s) S.r 8 = S.h := funext fun t => (hl t).symm
  refine ⟨?_, rfl, fun t ht => by rw [he]; exact I.h2 t ht, fun t u ht hu => ?_, ?_, fun t => ?_⟩
  · unfold right8 inTo
    have h1 : decide ((1 : Int) ≤ p ∧ (p : Int) ≤ 3) = true := decide_eq_true (by omega)
    simp only [h1, Bool.true_and, List.all_eq_true]
    intro k _
    have := I.r1 k
    simpa using this
  · rw [he]
    rcases I.h3 t u ht hu with h | ⟨g, a, _, c, d⟩
    · exact .inl h
    · exact .inr ⟨g, a, c, d⟩
  · simp only [loadOf8, sumTo]
    have r0 := I.r1 0
    have r1 := I.r1 1
    have r2 := I.r1 2
    have r3 := I.r1 3
    have r4 := I.r1 4
    have r5 := I.r1 5
    have r6 := I.r1 6
    have r7 := I.r1 7
    have one : ∀ k, 0 ≤ S.r k ∧ S.r k < p → ∀ v : Int, ((if S.r k = ((0 : Nat) : Int) then v else 0) + (if S.r k = ((1 : Nat) : Int) then v else 0)) + (if S.r k = ((2 : Nat) : Int) then v else 0) = v := by
      intro k hk v
      have : S.r k = 0 ∨ S.r k = 1 ∨ S.r k = 2 := by omega
      rcases this with e | e | e <;> rw [e] <;> simp
    have o0 := one 0 r0 (dealW s 0)
    have o1 := one 1 r1 (dealW s 1)
    have o2 := one 2 r2 (dealW s 2)
    have o3 := one 3 r3 (dealW s 3)
    have o4 := one 4 r4 (dealW s 4)
    have o5 := one 5 r5 (dealW s 5)
    have o6 := one 6 r6 (dealW s 6)
    have o7 := one 7 r7 (dealW s 7)
    simp only [sum8]
    omega
  · rw [he]
    have := I.h4 t
    omega
/-- What lies in memory while the law goes on. -/
def BalInv (w0 : World) (gs gr gh : Nat) (s r H : Nat → Int) (wx : World) : Prop := Blk wx gs 64 (C8 s) ∧ Blk wx gr 64 (C8 r) ∧ Blk wx gh 66 (C3 H) ∧ Below w0.heap.size w0 wx
theorem BalInv.step {w0 : World} {gs gr gh : Nat} {s r H : Nat → Int} {wx wy : World} (h : RowKit.Hid (BalInv w0 gs gr gh s r H wx)) (hf : Fr wx.heap.size [] wx wy) : RowKit.Hid (BalInv w0 gs gr gh s r H wy) := by
  obtain ⟨h1, h2, h3, h5⟩ := h
  exact ⟨h1.fr hf h1.lt (by simp), h2.fr hf h2.lt (by simp), h3.fr hf h3.lt (by simp), h5.trans (hf.below.mono h5.size)⟩
set_option maxRecDepth 100000 in
set_option maxHeartbeats 4000000 in
theorem walk_RouteBalances (par : Int) (_ : (Lit.int .i64 par).wf = true) (s : Nat → Int) (w : World) :
    Calls Try.prog 9 #[.int .i64 par, A8 s] w fun e w' => e = .returned (.bool true) ∧ Below w.heap.size w w' := by
  obtain ⟨p, hp⟩ : ∃ p : Nat, (p : Int) = clampP par := Int.eq_ofNat_of_zero_le (show 0 ≤ clampP par by unfold clampP; split <;> (try split) <;> omega) |>.imp fun _ h => h.symm
  have hcl : (par < 1 ∧ p = 1) ∨ (3 < par ∧ p = 3) ∨ (1 ≤ p ∧ p ≤ 3 ∧ par = (p : Int)) := by
    have hp := hp
    unfold clampP at hp
    split at hp <;> (try split at hp) <;> omega
  have hp3 : 1 ≤ p ∧ p ≤ 3 := by omega
  have HP := Lib.hid hp
  have HCL := Lib.hid hcl
  clear hp hcl
  go_enter Try.func9, Try.ntmps9
  go_wp2_with fail
  have hb := Blk.new w 64 (C8 s)
  have b0 := (Below.refl _ w).alloc (Nat.le_refl _) (.cells (C8 s) 64)
  generalize w.alloc _ = w1 at *
  refine (awake09 _).mono ?_
  rintro e w2 ⟨rfl, b1⟩
  have B2 := Lib.hid (hb.below b1 hb.lt)
  have BL2 := Lib.hid (b0.trans (b1.mono b0.size))
  clear hb b0 b1
  go_upto_region 3 with fail
  go_cut [5] (fun b wx => b = .int .i64 p ∧ wx = w2)
  case first =>
    rcases HCL.out with ⟨hcp, rfl⟩ | ⟨hcp, rfl⟩ | ⟨hcp1, hcp2, rfl⟩
    all_goals
      go_wp2_with fail
      go_meet
      exact ⟨rfl, rfl⟩
  case rest =>
    obtain ⟨rfl, rfl⟩ := hcut
    obtain ⟨hp1, hp3⟩ := hp3
    have h0 := B2.out.cell 0
    have h1 := B2.out.cell 1
    have h2 := B2.out.cell 2
    have h3 := B2.out.cell 3
    have h4 := B2.out.cell 4
    have h5 := B2.out.cell 5
    have h6 := B2.out.cell 6
    have h7 := B2.out.cell 7
    go_wp2_with fail
    refine (balance_any par p s _ HP.out).mono ?_
    rintro e w3 ⟨xs, rfl, hst, f3⟩
    clear h0 h1 h2 h3 h4 h5 h6 h7
    have FA := fair_of ⟨hp1, hp3⟩ hst
    generalize (dealS p (dealW s) (deckP xs) 8).r = r at *
    obtain ⟨H, hH⟩ : ∃ H, H = loadOf (dealW s) r 8 := ⟨_, rfl⟩
    rw [← hH] at FA
    have hl := fun w => loads_any r s w
    rw [← hH] at hl
    have HL := Lib.hid hl
    have hri := fun w => lright_any p r w
    rw [FA.right] at hri
    have HR := Lib.hid hri
    have HFA := Lib.hid FA
    have B3 := Lib.hid (B2.out.fr f3 B2.out.lt (by simp))
    have BL3 := Lib.hid (BL2.out.trans (f3.below.mono BL2.out.size))
    clear hl hri FA hst f3 hH B2 BL2
    go_wp2_with fail
    have hbr := Blk.new w3 64 (C8 r)
    have hbs := B3.out.alloc (.cells (C8 r) 64)
    have hbl := BL3.out.alloc BL3.out.size (.cells (C8 r) 64)
    have hgs : w.heap.size < w3.heap.size := B3.out.lt
    generalize w3.heap.size = gr at *
    generalize w3.alloc _ = w4 at *
    refine (HR.out _).mono ?_
    rintro e w5 ⟨rfl, f5⟩
    have hbr5 := hbr.fr f5 hbr.lt (by simp)
    have hbs5 := hbs.fr f5 hbs.lt (by simp)
    have hbl5 := hbl.trans (f5.below.mono hbl.size)
    have h0 := hbs5.cell 0
    have h1 := hbs5.cell 1
    have h2 := hbs5.cell 2
    have h3 := hbs5.cell 3
    have h4 := hbs5.cell 4
    have h5 := hbs5.cell 5
    have h6 := hbs5.cell 6
    have h7 := hbs5.cell 7
    have r0 := hbr5.cell 0
    have r1 := hbr5.cell 1
    have r2 := hbr5.cell 2
    have r3 := hbr5.cell 3
    have r4 := hbr5.cell 4
    have r5 := hbr5.cell 5
    have r6 := hbr5.cell 6
    have r7 := hbr5.cell 7
    have HBR5 := Lib.hid hbr5
    have HBS5 := Lib.hid hbs5
    have HBL5 := Lib.hid hbl5
    clear hbr hbs hbl f5 hbr5 hbs5 hbl5 B3 BL3
    go_wp2_with fail
    refine (HL.out _).mono ?_
    rintro e w6 ⟨rfl, f6⟩
    clear h0 h1 h2 h3 h4 h5 h6 h7 r0 r1 r2 r3 r4 r5 r6 r7
    have hgr : gr < w6.heap.size := Nat.lt_of_lt_of_le HBR5.out.lt f6.size
    have INV : RowKit.Hid (BalInv w w.heap.size gr w6.heap.size s r H (w6.alloc (.cells (C3 H) 66))) :=
      ⟨(HBS5.out.fr f6 HBS5.out.lt (by simp)).alloc _, (HBR5.out.fr f6 HBR5.out.lt (by simp)).alloc _, Blk.new _ _ _, (HBL5.out.trans (f6.below.mono HBL5.out.size)).alloc (HBL5.out.trans (f6.below.mono HBL5.out.size)).size _⟩
    clear f6 HBR5 HBS5 HBL5 HL HR
    go_wp2_with fail
    generalize w6.heap.size = gh at *
    generalize w6.alloc _ = w7 at *
    clear w3 w4 w5 w6
    have HRG := Lib.hid (fun t => HFA.out.range t)
    go_loop [8, 33] (fun m t => ∃ T : Nat, T ≤ 3 ∧ t = .int .i64 T ∧ m = .int .i64 (sumTo H T)) (fun _ t => 3 - (intOf t).toNat)
    case atStart => exact ⟨0, by omega, rfl, rfl⟩
    case round =>
      obtain ⟨T, hT, rfl, rfl⟩ := hrel
      by_cases hlt : T < 3
      · have hc := (INV.out.2.2.1.cell T).trans (C3_get _ hlt)
        have hrg := HRG.out T
        have hsr := sumTo_range (M := 8388608) HRG.out T
        have hsm0 : sumTo H (T + 1) = sumTo H T + H T := rfl
        have hsm := Lib.hid hsm0
        clear hsm0
        have hfar := fun h => HFA.out.far T h
        generalize sumTo H T = m at *
        have hti : (T : Int) < 3 := by omega
        by_cases hpt : p ≤ T
        · have hz := hfar hpt
          rw [hz] at hc hsm
          clear hfar hz hrg
          go_wp2_with fail
          go_round
          case rel => exact ⟨T + 1, by omega, by go_num, by rw [hsm.out]; simp⟩
          case measure => simp [intOf]; omega
        · clear hfar
          go_wp2_with fail
          go_round
          case rel => exact ⟨T + 1, by omega, by go_num, by rw [hsm.out]⟩
          case measure => simp [intOf]; omega
      · obtain rfl : T = 3 := by omega
        have hall := HFA.out.all
        have hs3 := sumTo_range (M := 8388608) HRG.out 3
        obtain ⟨all, hal⟩ : ∃ a, a = sumTo H 3 := ⟨_, rfl⟩
        rw [← hal] at hall hs3 ⊢
        have HALL := Lib.hid hall
        clear hall hal
        go_wp2_with fail
        go_loop [9, 51] (fun m t => ∃ G : Nat, G ≤ 8 ∧ t = .int .i64 G ∧ m = .int .i64 (sumTo (dealW s) G)) (fun _ t => 8 - (intOf t).toNat)
        case atStart => exact ⟨0, by omega, rfl, rfl⟩
        case round =>
          obtain ⟨G, hG, rfl, rfl⟩ := hrel
          by_cases hlt2 : G < 8
          · have hc := (INV.out.1.cell G).trans (C8_get _ hlt2)
            have hsr := sumTo_range (M := 1048576) (dealW_range s) G
            have hsm0 : sumTo (dealW s) (G + 1) = sumTo (dealW s) G + wgt (s G) := rfl
            have hsm := Lib.hid hsm0
            clear hsm0
            generalize sumTo (dealW s) G = m at *
            have hgi : (G : Int) < 8 := by omega
            by_cases n1 : s G < 0
            · have hz : wgt (s G) = 0 := by unfold wgt; rw [if_pos (.inl n1)]
              rw [hz] at hsm
              clear hz
              go_wp2_with fail
              go_round
              case rel => exact ⟨G + 1, by omega, by go_num, by rw [hsm.out]; first | rfl | simp⟩
              case measure => simp [intOf]; omega
            by_cases n2 : 1048576 < s G
            · have hz : wgt (s G) = 0 := by unfold wgt; rw [if_pos (.inr n2)]
              rw [hz] at hsm
              clear hz
              go_wp2_with fail
              go_round
              case rel => exact ⟨G + 1, by omega, by go_num, by rw [hsm.out]; first | rfl | simp⟩
              case measure => simp [intOf]; omega
            · have hz : wgt (s G) = s G := by unfold wgt; rw [if_neg (by omega)]
              rw [hz] at hsm
              clear hz
              go_wp2_with fail
              go_round
              case rel => exact ⟨G + 1, by omega, by go_num, by rw [hsm.out]⟩
              case measure => simp [intOf]; omega
          · obtain rfl : G = 8 := by omega
            rw [← HALL.out]
            clear HALL
            go_wp2_with fail
            go_loopw [13] (fun t wr => ∃ T : Nat, T ≤ p ∧ t = .int .i64 T ∧ RowKit.Hid (BalInv w w.heap.size gr gh s r H wr)) (fun t _ => p - (intOf t).toNat)
            case atStart => exact ⟨0, by omega, rfl, INV⟩
            case round =>
              clear INV
              obtain ⟨T, hTp, rfl, INV⟩ := hrel
              by_cases hlt3 : T < p
              · have r0 := INV.out.2.1.cell 0
                have r1 := INV.out.2.1.cell 1
                have r2 := INV.out.2.1.cell 2
                have r3 := INV.out.2.1.cell 3
                have r4 := INV.out.2.1.cell 4
                have r5 := INV.out.2.1.cell 5
                have r6 := INV.out.2.1.cell 6
                have r7 := INV.out.2.1.cell 7
                have hti : (T : Int) < (p : Int) := by omega
                go_wp2_with fail
                refine (groups_any r T _).mono ?_
                rintro e w8 ⟨A, c, rfl, hown, hf⟩
                clear r0 r1 r2 r3 r4 r5 r6 r7
                have INV := BalInv.step INV hf
                have RR := Lib.hid (Reads.of_own hown)
                have hN8 := someTo_length (fun k => r k == (T : Int)) 8
                have MEM := Lib.hid (fun x => (some_mem (p := fun k => r k == (T : Int)) (n := 8) (x := x)))
                clear hf hown
                generalize someTo (fun k => r k == (T : Int)) 8 = L at *
                obtain ⟨N, hN⟩ : ∃ N, N = L.length := ⟨_, rfl⟩
                rw [← hN] at RR hN8 ⊢
                have HN := Lib.hid hN
                clear hN
                go_wp2_with fail
                go_loop [14, 76] (fun m i => ∃ j : Nat, j ≤ N ∧ i = .int .i64 j ∧ m = .int .i64 (maxTo (dealW s) L j)) (fun _ i => N - (intOf i).toNat)
                case atStart => exact ⟨0, by omega, rfl, rfl⟩
                case round =>
                  obtain ⟨j, hj, rfl, rfl⟩ := hrel
                  by_cases hlj : j < N
                  · obtain ⟨b, off, u, rfl, hbb, hu', hcell⟩ := RR.out.one hlj
                    obtain ⟨x, hx, rfl⟩ : ∃ x, L[j]? = some x ∧ Value.int .i64 x = u := by simpa using hu'
                    obtain ⟨k, hk8, rfl, hrk⟩ := (MEM.out x).1 (List.mem_of_getElem? hx)
                    have hce := (INV.out.1.cell k).trans (C8_get s hk8)
                    have hki : (k : Int) < 8 := by omega
                    have hmr := maxTo_range (dealW_range s) (by omega) L j
                    have hms0 : maxTo (dealW s) L (j + 1) = max (maxTo (dealW s) L j) (wgt (s k)) := by
                      show max _ (dealW s (L.getD j 0).toNat) = _
                      rw [List.getD_eq_getElem?_getD, hx]
                      rfl
                    have HMS := Lib.hid hms0
                    clear hx hu' hrk hms0
                    generalize maxTo (dealW s) L j = m at *
                    have hji : (j : Int) < (N : Int) := by omega
                    by_cases n1 : s k < 0
                    · have hz : wgt (s k) = 0 := by unfold wgt; rw [if_pos (.inl n1)]
                      rw [hz] at HMS
                      clear hz
                      go_wp2_with fail
                      go_round
                      case rel => exact ⟨j + 1, by omega, by go_num, by rw [HMS.out, show max m 0 = m by omega]⟩
                      case measure => simp [intOf]; omega
                    by_cases n2 : 1048576 < s k
                    · have hz : wgt (s k) = 0 := by unfold wgt; rw [if_pos (.inr n2)]
                      rw [hz] at HMS
                      clear hz
                      go_wp2_with fail
                      go_round
                      case rel => exact ⟨j + 1, by omega, by go_num, by rw [HMS.out, show max m 0 = m by omega]⟩
                      case measure => simp [intOf]; omega
                    · have hz : wgt (s k) = s k := by unfold wgt; rw [if_neg (by omega)]
                      rw [hz] at HMS
                      clear hz
                      go_wp2_with fail
                      have hmx : max m (s k) = if m < s k then s k else m := by split <;> omega
                      go_round
                      case rel => exact ⟨j + 1, by omega, by go_num, by rw [HMS.out, hmx]⟩
                      case measure => simp [intOf]; omega
                  · obtain rfl : N = j := by omega
                    have hmr := maxTo_range (dealW_range s) (by omega) L N
                    have HGE := Lib.hid (fun g hg => (by rw [HN.out]; exact maxTo_mem (W := dealW s) L g hg : dealW s g ≤ maxTo (dealW s) L N))
                    obtain ⟨M, hM⟩ : ∃ M, M = maxTo (dealW s) L N := ⟨_, rfl⟩
                    rw [← hM] at hmr HGE ⊢
                    clear hM
                    go_wp2_with fail
                    go_loopw [17] (fun t wr => ∃ U m : Nat, U ≤ p ∧ t = .int .i64 U ∧ wr = w8.drewN m) (fun t _ => p - (intOf t).toNat)
                    case atStart => exact ⟨0, 0, by omega, rfl, rfl⟩
                    case round =>
                      obtain ⟨U, m, hU, rfl, rfl⟩ := hrel
                      by_cases hlu : U < p
                      · have cT := (INV.out.2.2.1.cell T).trans (C3_get H (by omega))
                        have cU := (INV.out.2.2.1.cell U).trans (C3_get H (by omega))
                        have gT := HRG.out T
                        have gU := HRG.out U
                        have hfa : H T ≤ H U + M := by
                          rcases HFA.out.fair T U hlt3 hlu with h | ⟨g, hg, hrg, h⟩
                          · omega
                          · have := HGE.out g ((MEM.out g).2 ⟨g, hg, rfl, by simpa using hrg⟩)
                            omega
                        generalize H T = a at *
                        generalize H U = b at *
                        have hd : decide (b + M < a) = false := decide_eq_false (by omega)
                        have hw1 : IntKind.i64.wrap (b + M) = b + M := by rw [IntKind.wrap_i64]; omega
                        have hTi : (T : Int) < 3 := by omega
                        have hUi : (U : Int) < 3 := by omega
                        have hUp : (U : Int) < (p : Int) := by omega
                        go_wp2_with fail
                        go_quiet (fail)
                        go_wp2_with fail
                        go_roundw
                        case rel => exact ⟨U + 1, m + nq, by omega, by go_num, by first | rfl | rw [World.drewN_drewN]⟩
                        case measure => simp [intOf]; omega
                      · obtain rfl : p = U := by omega
                        go_wp2_with fail
                        go_roundw
                        case rel => exact ⟨T + 1, by omega, by go_num, BalInv.step INV (Fr.drewN (Fr.refl _ _ _) m)⟩
                        case measure => simp [intOf]; omega
              · obtain rfl : p = T := by omega
                go_wp2_with fail
                go_ret
                exact ⟨by simp, INV.out.2.2.2⟩
end Go.Proofs.Ytkgllkoooohikaa
