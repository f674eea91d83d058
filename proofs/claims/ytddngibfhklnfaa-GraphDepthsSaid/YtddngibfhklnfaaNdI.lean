/- The contracts of slices.SortStableFunc on nodes and of graph.Norm. -/
import Derived.Test.YtddngibfhklnfaaNdH
import Derived.Test.YtddngibfhklnfaaNdC
import Derived.Test.YtddngibfhklnfaaGrP
namespace Go.Proofs.Ytddngibfhklnfaa
open Go.RowKit Go.Fb
theorem nodeTy : SliceTy Try.prog 22 38 13 136 := SliceTy.mk' (z := .agg ndZ) Try.underlying22 (by kernel_rfl) rfl (by omega)
def cmpId (a b : Ndm) : Int := if a.1.id < b.1.id then -1 else if b.1.id < a.1.id then 1 else 0
set_option maxRecDepth 100000 in
theorem ncmp_any (a b : Ndm) (w : World) : Calls Try.prog 56 #[.agg (ndA a.1 a.2.1 a.2.2), .agg (ndA b.1 b.2.1 b.2.2)] w fun e w' => e = .returned (.int .i64 (cmpId a b)) ∧ Fr w.heap.size [] w w' := by
  obtain ⟨x, sf, sp⟩ := a
  obtain ⟨y, tf, tp⟩ := b
  have BA := Lib.hid ((Blk.new w 38 (ndA x sf sp)).alloc (.cells (ndA y tf tp) 38))
  have BB0 := Blk.new (w.alloc (.cells (ndA x sf sp) 38)) 38 (ndA y tf tp)
  rw [World.size_alloc] at BB0
  have BB := Lib.hid BB0
  have F1 := Lib.hid (((Fr.refl w.heap.size [] w).alloc (Nat.le_refl _) (.cells (ndA x sf sp) 38)).alloc (by simp) (.cells (ndA y tf tp) 38))
  clear BB0
  go_enter Try.func56, Try.ntmps56
  go_upto_region 1 with fail
  generalize (w.alloc _).alloc _ = w1 at *
  have a0 := BA.out.cell 0
  have b0 := BB.out.cell 0
  simp at a0 b0
  obtain ⟨i, hi⟩ : ∃ i, i = x.id := ⟨_, rfl⟩
  obtain ⟨j, hj⟩ : ∃ j, j = y.id := ⟨_, rfl⟩
  obtain ⟨v, hv⟩ : ∃ v, v = cmpId (x, sf, sp) (y, tf, tp) := ⟨_, rfl⟩
  have hv2 : v = if i < j then -1 else if j < i then 1 else 0 := by rw [hv, hi, hj]; rfl
  rw [← hi] at a0
  rw [← hj] at b0
  have HV := Lib.hid hv2
  have HW := Lib.hid hv
  clear hi hj hv hv2
  by_cases h1 : i < j
  · have h : v = -1 := by rw [HV.out, if_pos h1]
    have H := Lib.hid h
    clear h HV
    go_wp2_with fail
    go_ret
    exact ⟨by rw [← HW.out, H.out]; rfl, F1.out⟩
  · by_cases h2 : j < i
    · have h : v = 1 := by rw [HV.out, if_neg h1, if_pos h2]
      have H := Lib.hid h
      clear h HV
      go_wp2_with fail
      go_ret
      exact ⟨by rw [← HW.out, H.out]; rfl, F1.out⟩
    · have h : v = 0 := by rw [HV.out, if_neg h1, if_neg h2]
      have H := Lib.hid h
      clear h HV
      go_wp2_with fail
      go_ret
      exact ⟨by rw [← HW.out, H.out]; rfl, F1.out⟩
set_option maxRecDepth 100000 in
theorem ninsort_same (a : Int) (h0 : 0 ≤ a) (h1 : a ≤ 1000) (A : Option Addr) (n c : Nat) (fn : Value) (w : World) :
    Calls Try.prog 108 #[.slice A n c, .int .i64 a, .int .i64 a, fn] w fun e w' => e = .returned (.tuple #[]) ∧ w = w' := by
  go_enter Try.func108, Try.ntmps108
  go_wp2_with fail
  go_loop [8] (fun s => s = .int .i64 (a + 1)) (fun _ => 0)
  case atStart => rfl
  case round =>
    subst hrel
    go_wp2_with fail
    go_end0
    exact ⟨rfl, rfl⟩
theorem swap_split {α : Type} : ∀ {xs : List α} {j : Nat} {a b : α}, xs[j + 1]? = some a → xs[j]? = some b → ∃ l1 l2, xs = l1 ++ b :: a :: l2 ∧ (xs.set (j + 1) b).set j a = l1 ++ a :: b :: l2
  | [], _, _, _, h, _ => by simp at h
  | [x], 0, _, _, h, _ => by simp at h
  | x :: y :: xs, 0, a, b, ha, hb => by
    simp at ha hb
    subst ha hb
    exact ⟨[], xs, rfl, rfl⟩
  | x :: xs, j + 1, a, b, ha, hb => by
    obtain ⟨l1, l2, h1, h2⟩ := swap_split (xs := xs) (j := j) (a := a) (b := b) (by simpa using ha) (by simpa using hb)
    refine ⟨x :: l1, l2, by rw [h1]; rfl, ?_⟩
    show x :: ((xs.set (j + 1) b).set j a) = _
    rw [h2]; rfl
theorem cmpId_neg {a b : Ndm} : cmpId a b < 0 ↔ a.1.id < b.1.id := by
  unfold cmpId
  split
  · simp_all
  · split <;> simp_all
def fstN (M : List Ndm) : List Nd := M.map (·.1)
theorem StN.filt {xs0 xs : List Ndm} {i j : Nat} (h : StN cmpId xs0 i j xs) (k : Int) : filtN k (fstN xs) = filtN k (fstN xs0) := by
  induction h with
  | start => rfl
  | @swap i j xs a b _ ha hb hc ih =>
    obtain ⟨l1, l2, h1, h2⟩ := swap_split ha hb
    rw [h2, ← ih, h1]
    have hne := cmpId_neg.1 hc
    simp only [fstN, filtN, List.map_append, List.map_cons, List.filter_append, List.filter_cons]
    congr 1
    by_cases e1 : a.1.id = k
    · have e2 : ¬ b.1.id = k := by omega
      simp [e1, e2]
    · simp [e1]
  | next _ _ ih => exact ih
structure StO (xs : List Ndm) (i j : Nat) : Prop where
  le : j ≤ i
  ot : ∀ p q a b, p < q → q ≤ i → q ≠ j → p ≠ j → xs[p]? = some a → xs[q]? = some b → a.1.id ≤ b.1.id
  at_ : ∀ q a b, j < q → q ≤ i → xs[j]? = some a → xs[q]? = some b → a.1.id < b.1.id
theorem getElem?_swap {α : Type} {xs : List α} {j : Nat} {a b : α} (ha : xs[j + 1]? = some a) (hb : xs[j]? = some b) (q : Nat) : ((xs.set (j + 1) b).set j a)[q]? = if q = j then some a else if q = j + 1 then some b else xs[q]? := by
  have l1 : j + 1 < xs.length := (List.getElem?_eq_some_iff.1 ha).1
  by_cases e1 : q = j
  · subst e1
    rw [if_pos rfl, List.getElem?_set_self (by rw [List.length_set]; omega)]
  · rw [if_neg e1, List.getElem?_set_ne (fun h => e1 h.symm)]
    by_cases e2 : q = j + 1
    · subst e2
      rw [if_pos rfl, List.getElem?_set_self l1]
    · rw [if_neg e2, List.getElem?_set_ne (fun h => e2 h.symm)]
theorem StN.ord {xs0 xs : List Ndm} {i j : Nat} (h : StN cmpId xs0 i j xs) : StO xs i j := by
  induction h with
  | start => exact ⟨Nat.le_refl _, fun p q a b h1 h2 h3 _ _ _ => by omega, fun q a b h1 h2 _ _ => by omega⟩
  | @swap i j xs a b _ ha hb hc ih =>
    have hlt := cmpId_neg.1 hc
    have hle := ih.le
    refine ⟨by omega, fun p q u v hpq hqi hqj hpj hu hv => ?_, fun q u v hq hqi hu hv => ?_⟩
    · rw [getElem?_swap ha hb, if_neg hpj] at hu
      rw [getElem?_swap ha hb, if_neg hqj] at hv
      by_cases e2 : q = j + 1
      · rw [if_pos e2] at hv
        rw [if_neg (by omega)] at hu
        injection hv with hv
        subst hv
        exact ih.ot p j u b (by omega) (by omega) (by omega) (by omega) hu hb
      · rw [if_neg e2] at hv
        by_cases e1 : p = j + 1
        · rw [if_pos e1] at hu
          injection hu with hu
          subst hu
          exact ih.ot j q b v (by omega) hqi (by omega) (by omega) hb hv
        · rw [if_neg e1] at hu
          exact ih.ot p q u v hpq hqi (by omega) (by omega) hu hv
    · rw [getElem?_swap ha hb, if_pos rfl] at hu
      rw [getElem?_swap ha hb, if_neg (by omega)] at hv
      injection hu with hu
      subst hu
      by_cases e2 : q = j + 1
      · rw [if_pos e2] at hv
        injection hv with hv
        subst hv
        exact hlt
      · rw [if_neg e2] at hv
        exact ih.at_ q a v (by omega) hqi ha hv
  | @next i j xs _ hn ih =>
    have hle := ih.le
    refine ⟨Nat.le_refl _, fun p q u v hpq hqi hqj hpj hu hv => ?_, fun q u v hq hqi _ _ => by omega⟩
    by_cases e1 : p = j
    · subst e1
      have := ih.at_ q u v hpq (by omega) hu hv
      omega
    by_cases e2 : q = j
    · rcases hn with h0 | ⟨k, a, b, rfl, ha, hb, hc⟩
      · omega
      · subst e2
        rw [ha] at hv
        injection hv with hv
        subst hv
        have hba : b.1.id ≤ a.1.id := by
          have : ¬ a.1.id < b.1.id := fun h => hc (cmpId_neg.2 h)
          omega
        by_cases e3 : p = k
        · subst e3
          rw [hb] at hu
          injection hu with hu
          subst hu
          exact hba
        · have := ih.ot p k u b (by omega) (by omega) (by omega) (by omega) hu hb
          omega
    exact ih.ot p q u v hpq (by omega) e2 e1 hu hv
theorem StN.norm {xs0 xs : List Ndm} {n : Nat} (hl : xs0.length = n) (h : StN cmpId xs0 n n xs) : fstN xs = normL (fstN xs0) := by
  refine normL_eq ?_ h.filt
  show List.Pairwise _ _
  rw [List.pairwise_iff_getElem]
  intro p q hp hq hpq
  have hll := h.len
  simp [fstN] at hp hq
  have := h.ord.ot p q xs[p] xs[q] hpq (by omega) (by omega) (by omega) (List.getElem?_eq_getElem hp) (List.getElem?_eq_getElem hq)
  simpa [fstN] using this
/-- What the stable sort leaves. -/
def NSorted (base : Nat) (A : Option Addr) (n c : Nat) (M0 : List Ndm) (w : World) (e : Ending) (w' : World) : Prop :=
  ∃ M, e = .returned (.tuple #[]) ∧ (∀ m ∈ M, m ∈ M0) ∧ M.length = n ∧ fstN M = normL (fstN M0) ∧ w'.ownsRow base 38 13 (.slice A n c) n (cellsN M) ∧ Fr w.heap.size (Value.ownBlock (.slice A n c)).toList w w'
def StR (base c : Nat) (A : Option Addr) (M0 : List Ndm) (w : World) (s t : Value) (wr : World) : Prop := (s = .int .i64 0 ∧ t = .int .i64 20 ∧ wr = w) ∨ (s = .int .i64 20 ∧ t = .int .i64 40 ∧ RowKit.Hid (NSorted base A 20 c M0 w (.returned (.tuple #[])) wr))
set_option maxRecDepth 100000 in
set_option maxHeartbeats 1000000 in
theorem nstable_any (base n c : Nat) (A : Option Addr) (M0 : List Ndm) (w : World) (hn : n ≤ 20) (hl : M0.length = n) (hsl : ∀ m ∈ M0, SlN m) (ho : w.ownsRow base 38 13 (.slice A n c) n (cellsN M0)) :
    Calls Try.prog 55 #[.slice A n c, .func (.func 56) #[] #[]] w (NSorted base A n c M0 w) := by
  have hst : Calls Try.prog 88 #[.slice A n c, .int .i64 n, .func (.func 56) #[] #[]] w (NSorted base A n c M0 w) := by
    have h0 : n = 0 → NSorted base A n c M0 w (.returned (.tuple #[])) w := by
      rintro rfl
      have : M0 = [] := List.eq_nil_of_length_eq_zero hl
      subst this
      exact ⟨[], rfl, by simp, rfl, by simp [fstN, normL], ho, Fr.refl _ _ _⟩
    have hins : 0 < n → Calls Try.prog 108 #[.slice A n c, .int .i64 0, .int .i64 n, .func (.func 56) #[] #[]] w (NSorted base A n c M0 w) := by
      intro hn0
      obtain ⟨g, cap, hv, hbg, hlt⟩ := ho.form hn0
      injection hv with hv1 hv2 hv3
      subst hv1
      subst hv3
      refine (ninsort_any 56 #[] cmpId base g n c M0 w hn hn0 hl hsl (enters_of Try.func56 (by kernel_rfl) rfl) (fun a b w' _ _ _ => ncmp_any a b w') ho).mono ?_
      rintro e w1 ⟨xs, rfl, hs, ho1, hf⟩
      exact ⟨xs, rfl, hs.mem, by rw [hs.len, hl], hs.norm hl, ho1, hf⟩
    have H0 := Lib.hid h0
    have HI := Lib.hid hins
    clear h0 hins ho hsl hl
    rcases Nat.eq_zero_or_pos n with rfl | hn0
    · have HN0 := Lib.hid (H0.out rfl)
      clear H0 HI hn
      go_enter Try.func88, Try.ntmps88
      go_wp2_with fail
      go_loop [7, 8] (fun s t => s = .int .i64 0 ∧ t = .int .i64 20) (fun _ _ => 0)
      case atStart => exact ⟨rfl, rfl⟩
      case round =>
        obtain ⟨rfl, rfl⟩ := hrel
        go_wp2_with fail
        refine (ninsort_same 0 (by omega) (by omega) _ _ _ _ _).mono ?_
        rintro e w1 ⟨rfl, rfl⟩
        go_wp2_with fail
        go_loop [6] (fun s => s = .int .i64 20) (fun _ => 0)
        case atStart => rfl
        case round =>
          subst hrel
          go_wp2_with fail
          go_end0
          exact HN0.out
    · have HIN := Lib.hid (HI.out hn0)
      clear H0 HI
      by_cases h20 : n = 20
      · subst h20
        clear hn hn0
        have HIN : RowKit.Hid (Calls Try.prog 108 #[.slice A 20 c, .int .i64 0, .int .i64 20, .func (.func 56) #[] #[]] w (NSorted base A 20 c M0 w)) := HIN
        show Calls Try.prog 88 #[.slice A 20 c, .int .i64 20, .func (.func 56) #[] #[]] w (NSorted base A 20 c M0 w)
        go_enter Try.func88, Try.ntmps88
        go_wp2_with fail
        go_loopw [7, 8] (StR base c A M0 w) (fun s _ _ => 20 - (intOf s).toNat)
        case atStart => exact .inl ⟨rfl, rfl, rfl⟩
        case round =>
          rcases hrel with ⟨rfl, rfl, rfl⟩ | ⟨rfl, rfl, HD⟩
          · go_wp2_with fail
            refine HIN.out.mono ?_
            rintro e w1 hs
            have HS := Lib.hid hs
            obtain ⟨xs, rfl, _⟩ := hs
            go_wp2_with fail
            go_roundw
            case rel => exact .inr ⟨rfl, rfl, HS⟩
            case measure => simp [intOf]
          · go_wp2_with fail
            refine (ninsort_same 20 (by omega) (by omega) _ _ _ _ _).mono ?_
            rintro e w1 ⟨rfl, rfl⟩
            go_wp2_with fail
            go_loop [6] (fun s => s = .int .i64 20) (fun _ => 0)
            case atStart => rfl
            case round =>
              subst hrel
              go_wp2_with fail
              go_end0
              exact HD.out
      · have h20' : n < 20 := by omega
        clear h20 hn
        go_enter Try.func88, Try.ntmps88
        go_wp2_with fail
        go_loop [7, 8] (fun s t => s = .int .i64 0 ∧ t = .int .i64 20) (fun _ _ => 0)
        case atStart => exact ⟨rfl, rfl⟩
        case round =>
          obtain ⟨rfl, rfl⟩ := hrel
          go_wp2_with fail
          refine HIN.out.mono ?_
          rintro e w1 hs
          have HS := Lib.hid hs
          obtain ⟨xs, rfl, _⟩ := hs
          go_wp2_with fail
          go_loop [6] (fun s => s = .int .i64 20) (fun _ => 0)
          case atStart => rfl
          case round =>
            subst hrel
            go_wp2_with fail
            go_end0
            exact HS.out
  have HST := Lib.hid hst
  clear hst ho hsl
  go_enter Try.func55, Try.ntmps55
  go_wp2_with fail
  refine HST.out.mono ?_
  rintro e w1 hs
  have HS := Lib.hid hs
  obtain ⟨xs, rfl, _⟩ := hs
  go_wp2_with fail
  go_end0
  exact HS.out
end Go.Proofs.Ytddngibfhklnfaa
