/- The contracts of package octet. -/
import Derived.Test.YtkmpcddhbdndkaaRows
import Derived.Test.YtkmpcddhbdndkaaW
namespace Go.Proofs.Ytkmpcddhbdndkaa
open Go.RowKit Go.Fb

theorem fits_any (n : Int) (w : World) : Calls Try.prog 117 #[.int .i64 n] w fun e w' => e = .returned (.bool (decide (-2147483648 ≤ n ∧ n ≤ 2147483647))) ∧ w = w' := by
  by_cases h : -2147483648 ≤ n
  · by_cases h' : n ≤ 2147483647
    · go_enter Try.func117, Try.ntmps117
      go_wp2
      go_ret
      exact ⟨by simp [h, h'], rfl⟩
    · go_enter Try.func117, Try.ntmps117
      go_wp2
      go_ret
      exact ⟨by simp [h'], rfl⟩
  · go_enter Try.func117, Try.ntmps117
    go_wp2
    go_ret
    exact ⟨by simp; omega, rfl⟩

/-- A number's bytes, as Go's shifts make them. -/
def be (n : Int) : List Int := [n % 4294967296 / 16777216, n % 4294967296 / 65536 % 256, n % 4294967296 / 256 % 256, n % 256]
theorem be_length (n : Int) : (be n).length = 4 := rfl
theorem bes_length (l : List Int) : (l.flatMap be).length = 4 * l.length := by
  induction l with
  | nil => rfl
  | cons a l ih => rw [List.flatMap_cons, List.length_append, ih, be_length, List.length_cons]; omega
def fitsB (n : Int) : Bool := decide (-2147483648 ≤ n ∧ n ≤ 2147483647)

/-- A writer at block g has written these bytes. -/
def Wr (base : Nat) (w : World) (g : Nat) (bs : List Int) : Prop :=
  ∃ sv, Blk w g 136 #[sv] ∧ w.ownsRow base 5 1 sv bs.length (bs.map (Value.int .u8))

theorem num_nil (A : Value) (w : World) : Calls Try.prog 78 #[.pointer none, A] w fun e w' => e = .returned (.int .i64 1) ∧ w = w' := by
  go_enter Try.func78, Try.ntmps78
  go_wp2_with fail
  go_ret
  exact ⟨rfl, rfl⟩

theorem bytesTy : SliceTy Try.prog 134 5 1 1 := SliceTy.mk' (z := .int .u8 0) Try.underlying134 (by kernel_rfl) rfl (by omega)
theorem u8info : (Try.prog.info? 5).map (fun i => (i.zero, i.size, i.bytes)) = some (some (.int .u8 0), 1, 1) := by kernel_rfl

set_option maxRecDepth 100000 in
theorem num_any (base g : Nat) (A : Option Addr) (n c B : Nat) (xs bs : List Int) (w : World) (hn : n ≤ 1000000) (hbs : bs.length ≤ 10000000) (hw : Wr base w g bs)
    (hbase : base ≤ w.heap.size) (hr : Reads w B 1 A n (xs.map (Value.int .i64))) (hB : B ≤ w.heap.size) (hg : 0 < n → ∀ ad, A = some ad → ad.block ≠ g ∧ ∀ sv, Blk w g 136 #[sv] → sv.ownBlock ≠ some ad.block) :
    Calls Try.prog 78 #[.pointer (some ⟨g, 0, none⟩), .slice A n c] w fun (e : Ending) w' =>
      (xs.all fitsB = true ∧ e = .returned (.int .i64 0) ∧ Wr base w' g (bs ++ xs.flatMap be) ∧ Fr base [g] w w') ∨
      (xs.all fitsB = false ∧ e = .returned (.int .i64 2) ∧ w = w') := by
  have hl : xs.length = n := by simpa using hr.1
  obtain ⟨sv0, hblk0, hown0⟩ := hw
  have hg' : 0 < n → ∀ ad, A = some ad → ad.block ∉ (g :: sv0.ownBlock.toList) := by
    intro h0 ad e hm
    obtain ⟨h1, h2⟩ := hg h0 ad e
    rcases List.mem_cons.1 hm with h | h
    · exact h1 h
    · exact h2 sv0 hblk0 (by simpa using h)
  have G' := Lib.hid hg'
  clear hg hg'
  go_enter Try.func78, Try.ntmps78
  go_wp2_with fail
  go_loop [14] (fun i => ∃ k : Nat, k ≤ n ∧ i = .int .i64 k ∧ (xs.take k).all fitsB = true) (fun i => n - (intOf i).toNat)
  case atStart => exact ⟨0, Nat.zero_le _, rfl, by simp⟩
  case round =>
    obtain ⟨k, hk, rfl, hall⟩ := hrel
    by_cases hlt : k < n
    · obtain ⟨b, off, u, rfl, hb, hu, hcell⟩ := hr.one hlt
      obtain ⟨x, hx, rfl⟩ : ∃ x, xs[k]? = some x ∧ Value.int .i64 x = u := by simpa using hu
      have H := Lib.hid hall
      have Hx := Lib.hid hx
      clear hall hx hu
      have Hl := Lib.hid hl
      clear hl
      by_cases hf : fitsB x = true
      · have hfd : decide (-2147483648 ≤ x ∧ x ≤ 2147483647) = true := hf
        have Hf := Lib.hid hf
        clear hf
        go_wp2_with (go_at_call 117; refine (fits_any _ _).mono ?_; rintro e w' ⟨rfl, rfl⟩)
        go_round
        case rel => exact ⟨k + 1, by omega, by go_num, by rw [List.take_add_one, Hx.out]; simp [H.out, Hf.out]⟩
        case measure => simp [intOf]; omega
      · have hf' : decide (-2147483648 ≤ x ∧ x ≤ 2147483647) = false := by simpa [fitsB] using hf
        have Hf := Lib.hid hf
        clear hf
        go_wp2_with (go_at_call 117; refine (fits_any _ _).mono ?_; rintro e w' ⟨rfl, rfl⟩)
        go_ret
        refine .inr ⟨?_, rfl, rfl⟩
        have hm := List.mem_of_getElem? Hx.out
        simp only [List.all_eq_false]
        exact ⟨x, hm, Hf.out⟩
    · obtain rfl : k = n := by omega
      have Hall := Lib.hid hall
      have Hl := Lib.hid hl
      clear hall hl
      clear hk hlt
      go_wp2_with fail
      go_loopw [24] (fun i wr => ∃ j : Nat, j ≤ k ∧ i = .int .i64 j ∧ (∃ sv, Blk wr g 136 #[sv] ∧ wr.ownsRow base 5 1 sv (bs ++ (xs.take j).flatMap be).length ((bs ++ (xs.take j).flatMap be).map (Value.int .u8)) ∧ (∀ q, sv.ownBlock = some q → q ∈ sv0.ownBlock.toList ∨ w.heap.size ≤ q)) ∧ Fr w.heap.size (g :: sv0.ownBlock.toList) w wr) (fun i _ => k - (intOf i).toNat)
      case atStart => exact ⟨0, Nat.zero_le _, rfl, ⟨sv0, hblk0, by simpa using hown0, fun q hq => .inl (by simpa using hq)⟩, Fr.refl _ _ _⟩
      case round =>
        obtain ⟨j, hj, rfl, ⟨sv, hblk, hown, hown'⟩, hfr⟩ := hrel
        by_cases hlt : j < k
        · obtain ⟨b, off, u, rfl, hb, hu, hcell⟩ := (hr.frL hfr hB G'.out).one hlt
          obtain ⟨x, hx, rfl⟩ : ∃ x, xs[j]? = some x ∧ Value.int .i64 x = u := by simpa using hu
          have hxf : fitsB x = true := by
            have h := Hall.out
            rw [List.take_of_length_le (Nat.le_of_eq Hl.out)] at h
            exact List.all_eq_true.1 h x (List.mem_of_getElem? hx)
          obtain ⟨hx1, hx2⟩ : -2147483648 ≤ x ∧ x ≤ 2147483647 := of_decide_eq_true hxf
          have Hx := Lib.hid hx
          clear hx hu hxf
          have hsv := hblk.cell 0
          have hfz := hblk.frozen 0
          obtain ⟨N, hN⟩ : ∃ N, N = (bs ++ List.flatMap be (List.take j xs)).length := ⟨_, rfl⟩
          rw [← hN] at hown
          have hbl : N ≤ 100000000 := by
            rw [hN, List.length_append, bes_length, List.length_take]; omega
          have hgb := hblk.lt
          have hne : some g ≠ sv.ownBlock := Blk.ne_own hblk hown (by decide)
          have OW := Lib.hid hown'
          clear hown'
          have HN := Lib.hid hN
          have Hfr := Lib.hid hfr
          have hsz := hfr.size
          have Hr := Lib.hid hr
          clear hfr hr hN
          go_wp2_with (at_builtin; refine wpList_app_lit _ rfl (.tmp 35) (.tmp 47) bytesTy rfl base sv _ _ rfl hown 4 4 _ rfl rfl (by simp [Value.oneCell']) (by omega) (by omega) (by omega) ?_; intro A' c' w1 hown1 hg1 hat1; have hblk1 : Blk w1 g 136 #[sv] := (hblk.alloc _).grown hg1 hne; have hc1 := hblk1.cell 0; have hf1 := hblk1.frozen 0)
          go_roundw
          case rel =>
            have hxs : xs.take (j + 1) = xs.take j ++ [x] := by rw [List.take_add_one, Hx.out]; rfl
            have hown2 : (w1.setCell ⟨g, 0, none⟩ (.slice A' (N + 4) c')).ownsRow base 5 1 (.slice A' (N + 4) c') (N + 4) ((bs ++ List.flatMap be (List.take (j + 1) xs)).map (Value.int .u8)) := by
              have h0 : (bs ++ List.flatMap be (List.take (j + 1) xs)).map (Value.int .u8) = (bs ++ List.flatMap be (List.take j xs)).map (Value.int .u8) ++ (be x).map (Value.int .u8) := by
                rw [hxs, List.flatMap_append, ← List.append_assoc, List.map_append (l₁ := bs ++ List.flatMap be (List.take j xs))]
                simp [be]
              rw [h0]
              exact ownsRow_setCell_other hown1 (fun e => Blk.ne_own hblk1 hown1 (by decide) e.symm) _
            refine ⟨j + 1, by omega, by go_num, ⟨_, hblk1.set_ 0 _, ?_, ?_⟩, ?_⟩
            · have h1 : (bs ++ List.flatMap be (List.take (j + 1) xs)).length = N + 4 := by
                rw [HN.out, hxs]; simp [be]; omega
              rw [h1]
              exact hown2
            · intro q hq
              rcases hat1 with h | h
              · exact OW.out q (by rw [← h]; exact hq)
              · rw [h] at hq; injection hq with hq; exact .inr (by omega)
            · exact (Hfr.out.trans (((Fr.refl _ _ wr).alloc (by omega) _).grown hg1 (by simp; omega) (fun q hq => (OW.out q hq).elim (fun h => .inr (List.mem_cons_of_mem _ h)) .inl))).setCell (.inr (by simp)) _
          case measure => simp [intOf]; omega
        · obtain rfl : j = k := by omega
          have Hfr := Lib.hid hfr
          clear hfr hr
          go_wp2_with fail
          go_ret
          have h1 : xs.take j = xs := List.take_of_length_le (Nat.le_of_eq Hl.out)
          rw [h1] at hown
          exact .inl ⟨by have := Hall.out; rwa [h1] at this, rfl, ⟨sv, hblk, hown⟩, Hfr.out.mono hbase (fun q hq hlt => by
            rcases List.mem_cons.1 hq with h | h
            · simp [h]
            · have := hown0.lt q (by simpa using h)
              omega)⟩

theorem out_nil (w : World) : Calls Try.prog 79 #[.pointer none] w fun e w' => e = .returned (.string ByteArray.empty) ∧ w = w' := by
  go_enter Try.func79, Try.ntmps79
  go_wp2_with fail
  go_ret
  exact ⟨rfl, rfl⟩
theorem out_any (base g : Nat) (bs : List Int) (w : World) (hw : Wr base w g bs) :
    Calls Try.prog 79 #[.pointer (some ⟨g, 0, none⟩)] w fun e w' => e = .returned (.string (strOfNums bs)) ∧ w = w' := by
  obtain ⟨sv, hblk, hown⟩ := hw
  have hc := hblk.cell 0
  have hcv := run_convert_own Try.underlying134 Try.underlying5 Try.underlying9 hown
  clear hown hblk
  go_enter Try.func79, Try.ntmps79
  go_wp2_with fail
  go_ret
  exact ⟨rfl, rfl⟩

theorem strOfNums_eq {a b : List Int} (ha : ∀ x ∈ a, 0 ≤ x ∧ x < 256) (hb : ∀ x ∈ b, 0 ≤ x ∧ x < 256) : (strOfNums a = strOfNums b) ↔ a = b := by
  constructor
  · intro h
    have h1 : a.map (fun n => UInt8.ofNat n.toNat) = b.map (fun n => UInt8.ofNat n.toNat) := by
      have := congrArg (fun s : ByteArray => s.data.toList) h
      simpa [strOfNums] using this
    clear h
    induction a generalizing b with
    | nil => cases b with
      | nil => rfl
      | cons y b => simp at h1
    | cons x a ih => cases b with
      | nil => simp at h1
      | cons y b =>
        simp only [List.map_cons, List.cons.injEq] at h1
        obtain ⟨h2, h3⟩ := h1
        have hx := ha x (by simp)
        have hy := hb y (by simp)
        have e : x = y := by
          have h4 := congrArg UInt8.toNat h2
          simp only [UInt8.toNat_ofNat'] at h4
          omega
        rw [e, ih (fun z hz => ha z (by simp [hz])) (fun z hz => hb z (by simp [hz])) h3]
  · rintro rfl; rfl
theorem be_range (n : Int) : ∀ x ∈ be n, 0 ≤ x ∧ x < 256 := by
  intro x hx
  simp only [be, List.mem_cons, List.not_mem_nil, or_false] at hx
  omega
theorem bes_range (l : List Int) : ∀ x ∈ l.flatMap be, 0 ≤ x ∧ x < 256 := by
  intro x hx
  obtain ⟨n, _, h⟩ := List.mem_flatMap.1 hx
  exact be_range n x h
theorem be_inj {a b : Int} (ha : fitsB a = true) (hb : fitsB b = true) (h : be a = be b) : a = b := by
  simp only [fitsB, decide_eq_true_eq] at ha hb
  simp only [be, List.cons.injEq, and_true] at h
  omega
theorem bes_inj : ∀ {a b : List Int}, a.all fitsB = true → b.all fitsB = true → a.flatMap be = b.flatMap be → a = b
  | [], [], _, _, _ => rfl
  | [], y :: b, _, _, h => by simp [be] at h
  | x :: a, [], _, _, h => by simp [be] at h
  | x :: a, y :: b, ha, hb, h => by
    simp only [List.all_cons, Bool.and_eq_true] at ha hb
    simp only [List.flatMap_cons] at h
    obtain ⟨h1, h2⟩ := List.append_inj h (by rw [be_length, be_length])
    rw [be_inj ha.1 hb.1 h1, bes_inj ha.2 hb.2 h2]

theorem Wr.new (w : World) (base : Nat) : Wr base (w.alloc (.cells #[.slice none 0 0] 136)) w.heap.size [] :=
  ⟨_, Blk.new _ _ _, World.ownsRow_nil _ _ _ _⟩
theorem Wr.fr {base g : Nat} {w w' : World} {bs : List Int} {B : Nat} {L : List Nat} (h : Wr base w g bs) (hb : Fr B L w w') (hg : g < B) (hB : w.heap.size ≤ B) (hL : ∀ k ∈ L, k ≠ g ∧ k < base) : Wr base w' g bs := by
  obtain ⟨sv, h1, h2⟩ := h
  exact ⟨sv, h1.fr hb hg (fun hm => (hL _ hm).1 rfl), ownsRow_fr h2 hb (fun k hk => ⟨by have := (h2.lt k hk).2; omega, fun hm => by have := (hL _ hm).2; have := (h2.lt k hk).1; omega⟩)⟩
/-- A writer's own row does not lie where the blocks below its base do. -/
theorem Wr.apart {base g : Nat} {w : World} {bs : List Int} (h : Wr base w g bs) {b : Nat} (hb : b ≠ g) (hlt : b < base) : b ≠ g ∧ ∀ sv, Blk w g 136 #[sv] → sv.ownBlock ≠ some b := by
  refine ⟨hb, fun sv hsv he => ?_⟩
  obtain ⟨sv', h1, h2⟩ := h
  have h3 := hsv.cell 0
  rw [h1.cell 0] at h3
  injection h3 with h3
  have h3 : sv' = sv := h3
  have := h2.lt b (by rw [h3]; exact he)
  omega
theorem Wr.src {base g B n : Nat} {w : World} {bs : List Int} {A : Option Addr} {xs : List Value} (h : Wr base w g bs) (hr : Reads w B 1 A n xs) (hg : B ≤ g) (hB : B ≤ base) :
    0 < n → ∀ ad, A = some ad → ad.block ≠ g ∧ ∀ sv, Blk w g 136 #[sv] → sv.ownBlock ≠ some ad.block := by
  intro h0 ad e
  obtain ⟨b, off, e', hb, _⟩ := hr.2 h0
  rw [e] at e'
  injection e' with e'
  subst e'
  exact h.apart (show b ≠ g by omega) (show b < base by omega)
theorem Wr.apart_new {base g : Nat} {w w' : World} {bs : List Int} (h : Wr base w g bs) (hf : Fr w.heap.size [] w w') : w.heap.size ≠ g ∧ ∀ sv, Blk w' g 136 #[sv] → sv.ownBlock ≠ some w.heap.size := by
  obtain ⟨sv', h1, h2⟩ := h
  refine ⟨by have := h1.lt; omega, fun sv hsv he => ?_⟩
  have h3 := hsv.cell 0
  rw [(h1.fr hf h1.lt (by simp)).cell 0] at h3
  injection h3 with h3
  have h3 : sv' = sv := h3
  have := h2.lt w.heap.size (by rw [h3]; exact he)
  omega
theorem Wr.rebase {base base' g : Nat} {w : World} {bs : List Int} (h : Wr base w g bs) (hb : base' ≤ base) : Wr base' w g bs := by
  obtain ⟨sv, h1, h2⟩ := h
  exact ⟨sv, h1, ownsRow_base h2 hb⟩

end Go.Proofs.Ytkmpcddhbdndkaa
