/- AlignTurns: the law of turns, and the walk. -/
import Derived.Test.YtkmkdodhahcpdaaSeen
import Derived.Test.YtkmkdodhahcpdaaAlignAlone
namespace Go.Proofs.Ytkmkdodhahcpdaa
open Go.RowKit Go.Fb
def allHas : Nat → Bool := fun _ => true
/-- After i picks since the start s: all open channels up to the place P were picked, and no others. -/
def Turn (bs : List Bool) (s N i P : Nat) (ks : List Int) (last : Int) : Prop :=
  P ≤ N ∧ cnt (fun q => offB bs ((s + q) % N)) P = i ∧ ks.length = i ∧ (∀ x ∈ ks, ∃ q, q < P ∧ x = (((s + q) % N : Nat) : Int)) ∧ ∀ k, pickC last N k = (s + P + k) % N
theorem pickC_nat {last : Int} {N k : Nat} (hl : -1 ≤ last) : pickC last N k = ((last + 1).toNat + k) % N := by
  unfold pickC
  obtain ⟨a, ha⟩ : ∃ a : Nat, last + 1 = (a : Int) := ⟨(last + 1).toNat, by omega⟩
  rw [ha, show ((a : Int) + (k : Int)) % (N : Int) = (((a + k) % N : Nat) : Int) by simp, Int.toNat_natCast, Int.toNat_natCast]
theorem turn_start {bs : List Bool} {last : Int} {N : Nat} (hN : 0 < N) (hl : -1 ≤ last) : Turn bs ((last + 1).toNat % N) N 0 0 [] last :=
  ⟨by omega, rfl, rfl, by simp, fun k => by rw [pickC_nat hl, Nat.add_zero, Nat.mod_add_mod]⟩
theorem freeAt_all {bs : List Bool} {last : Int} {N k : Nat} (hN : bs.length = N) : freeAt bs allHas last k = offB bs (pickC last N k) := by
  simp [freeAt, allHas, hN]
section
variable {bs : List Bool} {s N i P : Nat} {ks : List Int} {last : Int}
theorem turn_more (h : Turn bs s N i P ks last) (hs : s < N) (hi : i < cnt (offB bs) N) : ∃ q, P ≤ q ∧ q < N ∧ offB bs ((s + q) % N) = true := by
  obtain ⟨hP, hc, _, _, _⟩ := h
  rw [← cnt_rot (offB bs) hs] at hi
  exact cnt_more (p := fun q => offB bs ((s + q) % N)) (by omega) hP
theorem turn_found (h : Turn bs s N i P ks last) (hN : bs.length = N) (hs : s < N) (hi : i < cnt (offB bs) N) (hno : ∀ j, j < N → freeAt bs allHas last j = false) : False := by
  obtain ⟨q, h1, h2, h3⟩ := turn_more h hs hi
  have := hno (q - P) (by omega)
  rw [freeAt_all hN, h.2.2.2.2, show s + P + (q - P) = s + q by omega, h3] at this
  cases this
theorem turn_step (h : Turn bs s N i P ks last) (hN : bs.length = N) (hs : s < N) (hi : i < cnt (offB bs) N) {k : Nat} (hk : freeAt bs allHas last k = true) (hno : ∀ j, j < k → freeAt bs allHas last j = false) :
    (pickC last N k : Int) ∉ ks ∧ bs[pickC last N k]? = some false ∧ Turn bs s N (i + 1) (P + k + 1) (ks ++ [(pickC last N k : Int)]) (pickC last N k : Int) := by
  obtain ⟨q, h1, h2, h3⟩ := turn_more h hs hi
  obtain ⟨hP, hc, hl, hm, hp⟩ := h
  have hkq : k ≤ q - P := by
    rcases Nat.lt_or_ge (q - P) k with h | h
    · have := hno _ h
      rw [freeAt_all hN, hp, show s + P + (q - P) = s + q by omega, h3] at this
      cases this
    · exact h
  rw [freeAt_all hN, hp, Nat.add_assoc] at hk
  have hlt : (s + (P + k)) % N < N := Nat.mod_lt _ (by omega)
  rw [hp, Nat.add_assoc]
  refine ⟨fun hx => ?_, ?_, by omega, ?_, by simp [hl], ?_, ?_⟩
  · obtain ⟨q', hq', he⟩ := hm _ hx
    have := rot_inj (s := s) (N := N) (a := P + k) (b := q') (by omega) (by omega) (by omega)
    omega
  · obtain ⟨x, hx⟩ := bs_some (bs := bs) (k := (s + (P + k)) % N) (by omega)
    rw [offB_of hx] at hk
    rw [hx]
    cases x
    · rfl
    · cases hk
  · rw [cnt_succ, cnt_none (p := fun q => offB bs ((s + q) % N)) (a := P) (b := k), hc, if_pos hk]
    intro j hj
    have := hno j hj
    rwa [freeAt_all hN, hp, Nat.add_assoc] at this
  · intro x hx
    rcases List.mem_append.mp hx with h | h
    · obtain ⟨q', hq', he⟩ := hm x h
      exact ⟨q', by omega, he⟩
    · exact ⟨P + k, by omega, by simpa using h⟩
  · intro j
    rw [pickC_nat (by omega), show (((s + (P + k)) % N : Nat) : Int) + 1 = (((s + (P + k)) % N + 1 : Nat) : Int) by omega, Int.toNat_natCast, Nat.add_assoc, Nat.mod_add_mod]
    congr 1
    omega
theorem cnt_pos {p : Nat → Bool} {c N : Nat} (hc : c < N) (hp : p c = true) : 0 < cnt p N := by
  have h := cnt_add p (c + 1) (N - (c + 1))
  rw [show c + 1 + (N - (c + 1)) = N by omega, cnt_succ, hp] at h
  simp at h
  omega
end
theorem turns1_any (k : Int) (w : World) : Calls Try.prog 37 #[.int .i64 k] w fun e w' => e = .returned (.bool true) ∧ Fr w.heap.size [] w w' := by
  go_enter Try.func37, Try.ntmps37
  go_wp2_with fail
  go_ret
  exact ⟨rfl, Fr.refl _ _ _⟩
theorem turns_pick {w : World} {g gb : Nat} {bs : List Bool} {b : Bool} {ep : Int} {p : Bool} {many last : Int} (h : Al w g gb bs b ep p many last) (hb : bs.length ≤ 64) (hl0 : -1 ≤ last) (hl1 : last < bs.length) :
    Calls Try.prog 31 #[.pointer (some ⟨g, 0, none⟩), .func (.func 37) #[] #[]] w (PickOut w g gb bs b ep p many last allHas) :=
  pick_any _ #[] allHas h hb hl0 hl1 (fun args w => by kernel_rfl) (fun k w' _ _ => turns1_any k w')
structure TurnInv (w wr : World) (g gb : Nat) (N : Nat) (bs : List Bool) (b : Bool) (ep many last : Int) : Prop where
  a : Al wr g gb bs b ep false many last
  fr : Fr w.heap.size [] w wr
  len : bs.length = N
  l0 : -1 ≤ last
  l1 : last < N
  ord : w.heap.size ≤ gb ∧ gb < g
section
variable {w wr wr' : World} {g gb N : Nat} {bs bs' : List Bool} {b b' : Bool} {ep ep' many many' last last' : Int}
theorem TurnInv.keep (h : RowKit.Hid (TurnInv w wr g gb N bs b ep many last)) (hf : Fr wr.heap.size [] wr wr') : RowKit.Hid (TurnInv w wr' g gb N bs b ep many last) := by
  obtain ⟨a, fr, h1, h2, h3, h4⟩ := h.out
  exact Lib.hid ⟨a.fr0 hf, fr.trans (hf.mono fr.size (by simp)), h1, h2, h3, h4⟩
theorem TurnInv.turn (h : RowKit.Hid (TurnInv w wr g gb N bs b ep many last)) (hf : Fr wr.heap.size [g, gb] wr wr') (ha : Al wr' g gb bs' b' ep' false many' last') (hl : bs'.length = N) (h0 : -1 ≤ last') (h1 : last' < N) : RowKit.Hid (TurnInv w wr' g gb N bs' b' ep' many' last') := by
  obtain ⟨a, fr, _, _, _, ord⟩ := h.out
  exact Lib.hid ⟨ha, fr.trans (hf.mono fr.size (fun k hk hlt => by simp at hk; omega)), hl, h0, h1, ord⟩
end
theorem TurnInv.keepR {w wr wr' : World} {g gb N r : Nat} {bs : List Bool} {b : Bool} {ep many last : Int} (h : RowKit.Hid (TurnInv w wr g gb N bs b ep many last)) (hf : Fr wr.heap.size [r] wr wr') (h1 : g < r) (h2 : gb < r) : RowKit.Hid (TurnInv w wr' g gb N bs b ep many last) := by
  obtain ⟨a, fr, h3, h4, h5, ord⟩ := h.out
  exact Lib.hid ⟨a.fr hf a.st.lt a.bl.lt (by simp; omega) (by simp; omega), fr.trans (hf.mono fr.size (fun k hk hlt => by simp at hk; omega)), h3, h4, h5, ord⟩
set_option maxRecDepth 100000 in
set_option maxHeartbeats 2000000 in
theorem walk_AlignTurns (x0 : Int) (h0 : 0 ≤ x0 ∧ x0 ≤ 255) (A : Option Addr) (n c : Nat) (xs : List Int) (hnc : n ≤ c) (_hcm : c ≤ maxLen) (x2 : Int) (h2 : 0 ≤ x2 ∧ x2 ≤ 255) (w : World) (hr : Reads w w.heap.size 1 A n (xs.map (Value.int .u8))) (hwf : ∀ x ∈ xs, (Lit.int .u8 x).wf = true) :
    Calls Try.prog 7 #[.int .u8 x0, .slice A n c, .int .u8 x2] w fun e w' => e = .returned (.bool true) ∧ Below w.heap.size w w' := by
  have HA := Lib.hid awake19
  unfold maxLen at _hcm
  have HR := Lib.hid hr
  have HWF := Lib.hid hwf
  clear hr hwf
  obtain ⟨N, hN, hN1, hN2⟩ : ∃ N : Nat, 1 + x0 % 64 = (N : Int) ∧ 0 < N ∧ N ≤ 64 := ⟨(x0 % 64 + 1).toNat, by omega, by omega, by omega⟩
  obtain ⟨M, hM, hM2⟩ : ∃ M : Nat, x2 % 70 = (M : Int) ∧ M < 70 := ⟨(x2 % 70).toNat, by omega, by omega⟩
  have hmm := @run_makeMap Try.prog
  go_enter Try.func7, Try.ntmps7
  go_wp2_with fail
  refine (HA.out _).mono ?_
  rintro e w1 ⟨rfl, f1⟩
  have F1 := Lib.hid f1
  have z1 := f1.size
  clear f1
  go_wp2_with fail
  refine (anew_yes N _ hN2).mono ?_
  rintro e w2 ⟨rfl, a2, f2⟩
  have INV : RowKit.Hid (TurnInv w w2 (w1.heap.size + 1) w1.heap.size N (List.replicate N false) false 0 0 ((N : Int) - 1)) :=
    Lib.hid ⟨a2, F1.out.trans (f2.mono (by omega) (by simp)), by simp, by omega, by omega, by omega, by omega⟩
  clear a2 f2 F1
  generalize w1.heap.size + 1 = g at *
  generalize w1.heap.size = gb at *
  clear z1
  by_cases hn : n ≤ 100
  case neg =>
    go_wp2_with fail
    go_ret
    exact ⟨rfl, INV.out.fr.below⟩
  go_wp2_with fail
  go_loopw [42] (fun i wr => ∃ (k : Nat) (bs : List Bool) (b : Bool) (ep many : Int), k ≤ n ∧ i = .int .i64 k ∧ TurnInv w wr g gb N bs b ep many ((N : Int) - 1) ∧ 0 ≤ many ∧ many ≤ k ∧ (many ≤ 0 ∨ (b = true ∧ ep = 1))) (fun i _ => n - (intOf i).toNat)
  case atStart => exact ⟨0, _, _, _, _, by omega, rfl, INV.out, by omega, by omega, .inl (by omega)⟩
  case round =>
    obtain ⟨k, bs, b, ep, many, hk, rfl, hinv, hm0, hm1, hmm⟩ := hrel
    have INV := Lib.hid hinv
    have HMM := Lib.hid hmm
    clear hinv hmm
    by_cases hkn : k < n
    · obtain ⟨bb, off, u, rfl, hbb, hu, hcell⟩ := (HR.out.fr INV.out.fr (Nat.le_refl _) (by simp)).one hkn
      obtain ⟨x, hx, rfl⟩ : ∃ x, xs[k]? = some x ∧ u = .int .u8 x := by
        rw [List.getElem?_map] at hu
        cases h : xs[k]? with
        | none => rw [h] at hu; cases hu
        | some x => rw [h] at hu; injection hu with hu; exact ⟨x, rfl, hu.symm⟩
      have hxb : 0 ≤ x ∧ x ≤ 255 := by have := HWF.out x (List.mem_of_getElem? hx); simp [Lit.wf, IntKind.min, IntKind.max, IntKind.bits, IntKind.signed] at this; omega
      clear hu hx
      have hki : (k : Int) < (n : Int) := by omega
      obtain ⟨ch, hch, hchl⟩ : ∃ ch : Nat, x.tmod (N : Int) = (ch : Int) ∧ ch < N := by
        have e1 := Int.emod_lt_of_pos x (show (0 : Int) < (N : Int) by omega)
        have e2 := Int.emod_nonneg x (show (N : Int) ≠ 0 by omega)
        exact ⟨(x % (N : Int)).toNat, by rw [Int.tmod_eq_emod_of_nonneg hxb.1]; omega, by omega⟩
      have hN0 : (N : Int) ≠ 0 := by omega
      go_wp2_with fail
      obtain ⟨y, hy⟩ := bs_some (bs := bs) (k := ch) (by rw [INV.out.len]; exact hchl)
      cases y with
      | true =>
        refine (block_there INV.out.a ch hy 0 0 0 1 false).mono ?_
        rintro e w3 ⟨rfl, f3⟩
        have INV := TurnInv.keep INV f3
        clear f3
        go_wp2_with fail
        go_roundw
        case rel => exact ⟨k + 1, _, _, _, _, by omega, by go_num, INV.out, hm0, by omega, HMM.out⟩
        case measure => simp [intOf]; omega
      | false =>
        refine (block_ok INV.out.a ch hy 0 0 0 1 false (HMM.out.imp (fun h => by omega) fun h => ⟨h.1, h.2, rfl⟩) (by omega) (by omega)).mono ?_
        rintro e w3 ⟨rfl, a3, f3⟩
        have INV := TurnInv.turn INV f3 a3 (by simpa using INV.out.len) INV.out.l0 INV.out.l1
        clear a3 f3
        go_wp2_with fail
        go_roundw
        case rel => exact ⟨k + 1, _, _, _, _, by omega, by go_num, INV.out, by omega, by omega, .inr ⟨rfl, rfl⟩⟩
        case measure => simp [intOf]; omega
    · obtain rfl : k = n := by omega
      go_wp2_with fail
      refine (open_any INV.out.a (by rw [INV.out.len]; exact hN2)).mono ?_
      rintro e w4 ⟨A4, c4, rfl, _, f4⟩
      have INV := TurnInv.keep INV f4
      clear f4
      have HL := INV.out.len
      rw [HL]
      have HCN : RowKit.Hid (cnt (offB bs) N = (someTo (offB bs) N).length) := Lib.hid rfl
      have hml := someTo_length (offB bs) N
      generalize (someTo (offB bs) N).length = m at *
      generalize hll : (N : Int) - 1 = last at *
      clear hll HMM hm0 hm1
      clear hmm
      have hmm := @run_makeMap Try.prog
      go_wp2_with fail
      clear hkn hk
      go_loopw [14] (fun i wr => ∃ (k : Nat) (last : Int), k ≤ M ∧ i = .int .i64 k ∧ TurnInv w wr g gb N bs b ep many last) (fun i _ => M - (intOf i).toNat)
      case atStart => exact ⟨0, last, by omega, rfl, INV.out⟩
      case round =>
        obtain ⟨j, last, hjM, rfl, hinv⟩ := hrel
        have INV := Lib.hid hinv
        clear hinv
        by_cases hjm : j < M
        · have hji : (j : Int) < (M : Int) := by omega
          go_wp2_with fail
          refine (turns_pick INV.out.a (by rw [INV.out.len]; exact hN2) INV.out.l0 (by rw [INV.out.len]; exact INV.out.l1)).mono ?_
          rintro e w5 ho
          rcases ho with ⟨q, hq, hf, hno, rfl, ha, hfr⟩ | ⟨hno, rfl, hfr⟩
          · have hcl : pickC last bs.length q < N := by rw [HL]; exact pickC_lt hN1
            have hm0 : 0 < m := by
              rw [← HCN.out]
              exact cnt_pos (c := pickC last bs.length q) hcl (by rw [HL]; rw [freeAt_all HL] at hf; exact hf)
            have hmi : 0 < (m : Int) := by omega
            have INV := TurnInv.turn INV (hfr.mono (L' := [g, gb]) (Nat.le_refl _) (fun k hk _ => by simp at hk ⊢; exact .inl hk)) ha HL (by omega) (by omega)
            clear ha hfr hno hf
            generalize pickC last bs.length q = cq at *
            go_wp2_with fail
            go_roundw
            case rel => exact ⟨j + 1, _, by omega, by go_num, INV.out⟩
            case measure => simp [intOf]; omega
          · have hm0 : m = 0 := by
              rcases Nat.eq_zero_or_pos m with h | h
              · exact h
              · rw [← HCN.out] at h
                exact (turn_found (turn_start hN1 INV.out.l0) HL (Nat.mod_lt _ hN1) h (by rw [← HL]; exact hno)).elim
            have INV := TurnInv.keep INV hfr
            have HM0 := Lib.hid hm0
            have hmi : ¬ 0 < (m : Int) := by omega
            clear hfr hno hm0
            go_wp2_with fail
            go_roundw
            case rel => exact ⟨j + 1, _, by omega, by go_num, INV.out⟩
            case measure => simp [intOf]; omega
        · obtain rfl : j = M := by omega
          go_wp2_with fail
          have SE := Lib.hid (Seen.new wr)
          have hgr : g < wr.heap.size ∧ gb < wr.heap.size := ⟨INV.out.a.st.lt, INV.out.a.bl.lt⟩
          have INV := TurnInv.keep INV ((Fr.refl wr.heap.size [] wr).alloc (Nat.le_refl _) (.map #[] 0))
          generalize wr.alloc _ = w6 at *
          generalize wr.heap.size = r at *
          have HT := Lib.hid (turn_start (bs := bs) hN1 INV.out.l0)
          have hs : (last + 1).toNat % N < N := Nat.mod_lt _ hN1
          generalize (last + 1).toNat % N = s at *
          clear hmm hjm hjM hM hM2
          go_loopw [77] (fun v wr => ∃ (i P : Nat) (ks : List Int) (last : Int), i ≤ m ∧ v = .int .i64 i ∧ TurnInv w wr g gb N bs b ep many last ∧ Turn bs s N i P ks last ∧ Seen wr r ks) (fun v _ => m - (intOf v).toNat)
          case atStart => exact ⟨0, 0, [], last, by omega, rfl, INV.out, HT.out, SE.out⟩
          case round =>
            obtain ⟨i, P, ks, last, him, rfl, hinv, hturn, hseen⟩ := hrel
            have INV := Lib.hid hinv
            have HT := Lib.hid hturn
            have SE := Lib.hid hseen
            clear hinv hturn hseen
            by_cases hi : i < m
            · have hii : (i : Int) < (m : Int) := by omega
              go_wp2_with fail
              refine (turns_pick INV.out.a (by rw [INV.out.len]; exact hN2) INV.out.l0 (by rw [INV.out.len]; exact INV.out.l1)).mono ?_
              rintro e w7 ho
              have hicnt : i < cnt (offB bs) N := by rw [HCN.out]; exact hi
              rcases ho with ⟨q, hq, hf, hno, rfl, ha, hfr⟩ | ⟨hno, rfl, hfr⟩
              · rw [HL] at ha ⊢
                have hcl : pickC last N q < N := pickC_lt hN1
                obtain ⟨hcn, hcb, hT⟩ := turn_step HT.out HL hs hicnt hf hno
                have rlt := SE.out.lt
                have SE7 := Lib.hid (SE.out.fr hfr rlt (by simp; omega))
                have INV := TurnInv.turn INV (hfr.mono (L' := [g, gb]) (Nat.le_refl _) (fun k hk _ => by simp at hk ⊢; exact .inl hk)) ha HL (by omega) (by omega)
                have HT' := Lib.hid hT
                clear ha hfr hno hf hT
                generalize pickC last N q = cq at *
                have HCB := Lib.hid hcb
                have hlk := seen_lookup SE7.out hcn
                obtain ⟨w8, hst, hsn, hf8⟩ := seen_store SE7.out hcn
                have SE8 := Lib.hid hsn
                have INV8 := TurnInv.keepR INV hf8 hgr.1 hgr.2
                clear hsn hf8 hcn hcb
                go_wp2_with (go_at_call 38; refine (blocked_in INV.out.a cq false HCB.out).mono ?_; rintro e w9 ⟨rfl, rfl⟩)
                go_roundw
                case rel => exact ⟨i + 1, _, _, _, by omega, by go_num, INV8.out, HT'.out, SE8.out⟩
                case measure => simp [intOf]; omega
              · exact (turn_found HT.out HL hs hicnt (by rw [← HL]; exact hno)).elim
            · obtain rfl : i = m := by omega
              obtain ⟨es, clock, hb, hsz⟩ := SE.out.block
              have hsi : es.size = i := hsz.trans HT.out.2.2.1
              clear hsz
              have hlen : (Builtin.len_ #[71] 3 #[.map (some r)]).run Try.prog wr = .ok (.int .i64 i) wr := by
                rw [← hsi]
                exact run_len_map (P := Try.prog) _ _ _ _ _ _ (by kernel_rfl) hb
              clear hb hsi
              go_wp2_with fail
              go_ret
              exact ⟨rfl, INV.out.fr.below⟩
end Go.Proofs.Ytkmkdodhahcpdaa
