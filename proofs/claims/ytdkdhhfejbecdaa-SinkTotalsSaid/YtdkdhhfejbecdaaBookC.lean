/- A book: the document's example, and the state of the law SinkBooks: a book, and two lists beside it. -/
import Derived.Test.YtdkdhhfejbecdaaBookB
namespace Go.Proofs.Ytdkdhhfejbecdaa
open Go.RowKit Go.Fb
set_option maxRecDepth 100000 in
theorem awake21 (w : World) : Calls Try.prog 13 #[] w fun e w' => e = .returned (.bool true) ∧ Below w.heap.size w w' := by
  have HN := Lib.hid (bnew_any w)
  obtain ⟨x, hx⟩ : ∃ x : Nat → Int, x = fun j => if j = 0 then 1 else 0 := ⟨_, rfl⟩
  have hcx : cellsLn [x] = [.int .i64 1, .int .i64 0, .int .i64 0, .int .i64 0, .int .i64 0] := by subst hx; rfl
  have hal : [x].all lineB = true := by subst hx; rfl
  have HRD := Lib.hid (fun (w' : World) => (by rw [hcx]; exact (Reads.of_blk (size := 5) (m := 1) (Blk.new w' 93 #[.int .i64 1, .int .i64 0, .int .i64 0, .int .i64 0, .int .i64 0]) rfl) : Reads (w'.alloc (.cells #[.int .i64 1, .int .i64 0, .int .i64 0, .int .i64 0, .int .i64 0] 93)) (w'.heap.size + 1) 5 (some ⟨w'.heap.size, 0, none⟩) 1 (cellsLn [x])))
  have HAL := Lib.hid hal
  clear hx hcx hal
  go_enter Try.func13, Try.ntmps13
  go_wp2_with fail
  refine HN.out.mono ?_
  rintro e w1 ⟨gb, gm, rfl, B1, f1⟩
  have f2 := (Fr.refl w1.heap.size [] w1).alloc (Nat.le_refl _) (.cells #[.int .i64 1, .int .i64 0, .int .i64 0, .int .i64 0, .int .i64 0] 93)
  have hs2 : (w1.alloc (.cells #[.int .i64 1, .int .i64 0, .int .i64 0, .int .i64 0, .int .i64 0] 93)).heap.size = w1.heap.size + 1 := by simp
  have HC := Lib.hid (bcommit_ok _ (B1.keep f2) (by rw [hs2]; have := f1.size; omega) 1 (some ⟨w1.heap.size, 0, none⟩) 1 (w1.heap.size + 1) [x] (HRD.out w1) (by rw [hs2]; exact Nat.le_refl _) (by simp) (by decide) HAL.out (by simp))
  have F2 := Lib.hid (f1.trans (f2.mono f1.size (by simp)))
  clear B1 f1 f2 hs2 HN
  go_wp2_with fail
  refine HC.out.mono ?_
  rintro e w2 ⟨V, rfl, B2, f3, _⟩
  have F3 := Lib.hid (F2.out.trans (f3.mono F2.out.size (by
    intro q hq hlt
    have := B2.low
    simp only [List.mem_cons] at hq
    rcases hq with rfl | rfl | hq
    · omega
    · omega
    · simp [Value.ownBlock] at hq)))
  have HT := Lib.hid (fun (w' : World) (h : Fr w2.heap.size [] w2 w') S => bcommit_there w' (B2.keep h) 1 S (by decide))
  have HLN := Lib.hid (fun (w' : World) (h : Fr w2.heap.size [] w2 w') => blen_any w' (B2.keep h))
  simp only [List.nil_append, List.length_cons, List.length_nil] at HLN
  clear B2 f3 HC
  go_wp2_with fail
  have f4 := (Fr.refl w2.heap.size [] w2).alloc (Nat.le_refl _) (.cells #[.int .i64 1, .int .i64 0, .int .i64 0, .int .i64 0, .int .i64 0] 93)
  refine (HT.out _ f4 _).mono ?_
  rintro e w3 ⟨rfl, rfl⟩
  go_wp2_with fail
  refine (HLN.out _ f4).mono ?_
  rintro e w3 ⟨rfl, rfl⟩
  go_wp2_with fail
  go_ret
  exact ⟨rfl, (F3.out.trans (f4.mono F3.out.size (by simp))).below⟩
/-- What was committed since. -/
theorem FromOk.unique {E : List (Int × Nat)} {ask : Int} {n f g : Nat} (h : FromOk E ask n f) (k : FromOk E ask n g) : f = g := by
  have a : f ≤ g := by
    rcases k.2.2 with e | ⟨x, h1, h2, h3⟩
    · have := h.1; omega
    · have := h.2.1 x h1 h2; omega
  have b : g ≤ f := by
    rcases h.2.2 with e | ⟨x, h1, h2, h3⟩
    · have := k.1; omega
    · have := k.2.1 x h1 h2; omega
  omega
structure SInv (l : List (Nat → Int)) (E : List (Int × Nat)) (ep ask : Int) (S : List (Nat → Int)) : Prop where
  keys : ∀ x ∈ E, x.1 ≤ ep ∧ x.2 ≤ l.length
  from_ : ∃ f, FromOk E ask l.length f ∧ l.drop f = S
theorem SInv.start (ask : Int) : SInv [] [] 0 ask [] := ⟨by simp, 0, ⟨Nat.le_refl _, by simp, .inl rfl⟩, rfl⟩
theorem SInv.le {l : List (Nat → Int)} {E : List (Int × Nat)} {ep ask : Int} {S : List (Nat → Int)} (h : SInv l E ep ask S) : S.length ≤ l.length := by
  obtain ⟨f, _, rfl⟩ := h.from_
  rw [List.length_drop]; omega
theorem SInv.step {l m : List (Nat → Int)} {E : List (Int × Nat)} {ep ask e : Int} {S : List (Nat → Int)} (h : SInv l E ep ask S) (he : ep < e) : SInv (l ++ m) (E ++ [(e, l.length)]) e ask (if ask < e then S ++ m else S) := by
  obtain ⟨f, hf, rfl⟩ := h.from_
  refine ⟨fun x hx => ?_, ?_⟩
  · rw [List.length_append]
    rcases List.mem_append.1 hx with hx | hx
    · have := h.keys x hx; omega
    · rw [List.mem_singleton.1 hx]; exact ⟨Int.le_refl _, by show l.length ≤ _; omega⟩
  · have hfl := hf.1
    by_cases c : ask < e
    · rw [if_pos c]
      refine ⟨f, ⟨by rw [List.length_append]; omega, fun x hx ha => ?_, ?_⟩, ?_⟩
      · rcases List.mem_append.1 hx with hx | hx
        · exact hf.2.1 x hx ha
        · rw [List.mem_singleton.1 hx]; exact hfl
      · rcases hf.2.2 with e1 | ⟨x, h1, h2, h3⟩
        · exact .inr ⟨(e, l.length), by simp, c, e1.symm⟩
        · exact .inr ⟨x, by simp [h1], h2, h3⟩
      · rw [List.drop_append_of_le_length hfl]
    · rw [if_neg c]
      have no : ∀ x ∈ E, ¬ ask < x.1 := fun x hx => by have := (h.keys x hx).1; omega
      have hfn : f = l.length := by
        rcases hf.2.2 with e1 | ⟨x, h1, h2, _⟩
        · exact e1
        · exact absurd h2 (no x h1)
      refine ⟨(l ++ m).length, ⟨Nat.le_refl _, fun x hx ha => ?_, .inl rfl⟩, ?_⟩
      · rcases List.mem_append.1 hx with hx | hx
        · exact absurd ha (no x hx)
        · rw [List.mem_singleton.1 hx] at ha; exact absurd ha c
      · rw [hfn, List.drop_length, List.drop_length]
/-- A book, and two lists beside it. -/
structure SB (gb gm : Nat) (l la S : List (Nat → Int)) (E : List (Int × Nat)) (ep : Int) (V VA VS : Value) (w0 w : World) : Prop where
  bk : Bk w0.heap.size gb gm l E ep V w
  all_ : w.ownsRow w0.heap.size 93 5 VA la.length (cellsLn la)
  since : w.ownsRow w0.heap.size 93 5 VS S.length (cellsLn S)
  d1 : ∀ b, V.ownBlock = some b → VA.ownBlock ≠ some b ∧ VS.ownBlock ≠ some b
  d2 : ∀ b, VA.ownBlock = some b → VS.ownBlock ≠ some b
  fr : Fr w0.heap.size [] w0 w
section
variable {gb gm : Nat} {l la S : List (Nat → Int)} {E : List (Int × Nat)} {ep : Int} {V VA VS : Value} {w0 w w' : World}
theorem SB.keep (h : SB gb gm l la S E ep V VA VS w0 w) (hf : Fr w.heap.size [] w w') : SB gb gm l la S E ep V VA VS w0 w' :=
  ⟨h.bk.keep hf, ownsRow_fr h.all_ hf (fun q hq => ⟨(h.all_.lt q hq).2, by simp⟩), ownsRow_fr h.since hf (fun q hq => ⟨(h.since.lt q hq).2, by simp⟩), h.d1, h.d2, h.fr.trans (hf.mono h.fr.size (by simp))⟩
theorem SB.commit (h : SB gb gm l la S E ep V VA VS w0 w) {m : List (Nat → Int)} {e : Int} {V' : Value} (hb : Bk w0.heap.size gb gm (l ++ m) (E ++ [(e, l.length)]) e V' w') (hf : Fr w.heap.size (gb :: gm :: V.ownBlock.toList) w w')
    (hat : V'.ownBlock = V.ownBlock ∨ ∃ b, V'.ownBlock = some b ∧ w.heap.size ≤ b) : SB gb gm (l ++ m) la S (E ++ [(e, l.length)]) e V' VA VS w0 w' := by
  have nA : ∀ q, VA.ownBlock = some q → q ∉ gb :: gm :: V.ownBlock.toList := by
    intro q hq hm
    simp only [List.mem_cons, Option.mem_toList] at hm
    rcases hm with rfl | rfl | hm
    · exact h.bk.st.ne_own h.all_ (by decide) hq.symm
    · exact h.bk.mp.ne_own h.all_ hq.symm
    · exact (h.d1 q hm).1 hq
  have nS : ∀ q, VS.ownBlock = some q → q ∉ gb :: gm :: V.ownBlock.toList := by
    intro q hq hm
    simp only [List.mem_cons, Option.mem_toList] at hm
    rcases hm with rfl | rfl | hm
    · exact h.bk.st.ne_own h.since (by decide) hq.symm
    · exact h.bk.mp.ne_own h.since hq.symm
    · exact (h.d1 q hm).2 hq
  refine ⟨hb, ownsRow_fr h.all_ hf (fun q hq => ⟨(h.all_.lt q hq).2, nA q hq⟩), ownsRow_fr h.since hf (fun q hq => ⟨(h.since.lt q hq).2, nS q hq⟩), ?_, h.d2, h.fr.trans (hf.mono h.fr.size ?_)⟩
  · intro b hb'
    rcases hat with hat | ⟨c, hc, hle⟩
    · exact h.d1 b (hat ▸ hb')
    · rw [hc] at hb'
      injection hb' with hb'
      subst hb'
      refine ⟨fun e => ?_, fun e => ?_⟩
      · have := (h.all_.lt c e).2; omega
      · have := (h.since.lt c e).2; omega
  · intro q hq hlt
    simp only [List.mem_cons, Option.mem_toList] at hq
    have := h.bk.low
    rcases hq with rfl | rfl | hq
    · omega
    · omega
    · have := (h.bk.own.lt q hq).1; omega
theorem SB.appA (h : SB gb gm l la S E ep V VA VS w0 w) {m : List (Nat → Int)} {v : Value} {n : Nat} (hown : w'.ownsRow w0.heap.size 93 5 v n (cellsLn la ++ cellsLn m)) (hn : n = la.length + m.length) (hg : w.grownBy w' VA.ownBlock)
    (hat : v.ownBlock = VA.ownBlock ∨ v.ownBlock = some w.heap.size) : SB gb gm l (la ++ m) S E ep V v VS w0 w' := by
  have ha := h.all_
  refine ⟨⟨h.bk.st.grown hg (h.bk.st.ne_own ha (by decide)), ?_, h.bk.own.kept hg ?_, h.bk.low⟩, by rw [List.length_append, ← hn, cellsLn_app]; exact hown, h.since.kept hg ?_, ?_, ?_, h.fr.grown hg h.fr.size (fun q hq => .inl (ha.lt q hq).1)⟩
  · obtain ⟨es, clock, hb, he⟩ := h.bk.mp
    exact ⟨es, clock, (hg.block gm h.bk.mp.lt (h.bk.mp.ne_own ha)).trans hb, he⟩
  · cases hv : V.ownBlock with
    | none => exact .inl rfl
    | some q => exact .inr (fun e => (h.d1 q hv).1 e.symm)
  · cases hv : VS.ownBlock with
    | none => exact .inl rfl
    | some q => exact .inr (fun e => h.d2 q e.symm hv)
  · intro b hb
    refine ⟨fun e => ?_, (h.d1 b hb).2⟩
    rcases hat with hat | hat
    · rw [hat] at e; exact (h.d1 b hb).1 e
    · rw [hat] at e; injection e with e; have := (h.bk.own.lt b hb).2; omega
  · intro b hb e
    rcases hat with hat | hat
    · rw [hat] at hb; exact h.d2 b hb e
    · rw [hat] at hb; injection hb with hb; have := (h.since.lt b e).2; omega
theorem SB.appS (h : SB gb gm l la S E ep V VA VS w0 w) {m : List (Nat → Int)} {v : Value} {n : Nat} (hown : w'.ownsRow w0.heap.size 93 5 v n (cellsLn S ++ cellsLn m)) (hn : n = S.length + m.length) (hg : w.grownBy w' VS.ownBlock)
    (hat : v.ownBlock = VS.ownBlock ∨ v.ownBlock = some w.heap.size) : SB gb gm l la (S ++ m) E ep V VA v w0 w' := by
  have ha := h.since
  refine ⟨⟨h.bk.st.grown hg (h.bk.st.ne_own ha (by decide)), ?_, h.bk.own.kept hg ?_, h.bk.low⟩, h.all_.kept hg ?_, by rw [List.length_append, ← hn, cellsLn_app]; exact hown, ?_, ?_, h.fr.grown hg h.fr.size (fun q hq => .inl (ha.lt q hq).1)⟩
  · obtain ⟨es, clock, hb, he⟩ := h.bk.mp
    exact ⟨es, clock, (hg.block gm h.bk.mp.lt (h.bk.mp.ne_own ha)).trans hb, he⟩
  · cases hv : V.ownBlock with
    | none => exact .inl rfl
    | some q => exact .inr (fun e => (h.d1 q hv).2 e.symm)
  · cases hv : VA.ownBlock with
    | none => exact .inl rfl
    | some q => exact .inr (fun e => h.d2 q hv e.symm)
  · intro b hb
    refine ⟨(h.d1 b hb).1, fun e => ?_⟩
    rcases hat with hat | hat
    · rw [hat] at e; exact (h.d1 b hb).2 e
    · rw [hat] at e; injection e with e; have := (h.bk.own.lt b hb).2; omega
  · intro b hb e
    rcases hat with hat | hat
    · rw [hat] at e; exact h.d2 b hb e
    · rw [hat] at e; injection e with e; have := (h.all_.lt b hb).2; omega
/-- What was committed since, as the law says it. -/
theorem since_law (h : SB gb gm l la S E ep V VA VS w0 w) {ask : Int} (hs : SInv l E ep ask S) (hn : l.length ≤ 1000000) : Calls Try.prog 21 #[.pointer (some ⟨gb, 0, none⟩), .int .i64 ask] w fun e w' => ∃ A c, e = .returned (.slice A S.length c) ∧ Reads w' w'.heap.size 5 A S.length (cellsLn S) ∧ Fr w.heap.size [] w w' :=
  (bsince_any w h.bk hn (fun x hx => by have := (hs.keys x hx).2; omega) ask).mono fun e w' ⟨f, A, c, hf, he, hown, hfr⟩ => by
    obtain ⟨g, hg, hgS⟩ := hs.from_
    obtain rfl := hf.unique hg
    have hl : l.length - f = S.length := by rw [← hgS, List.length_drop]
    rw [hgS, hl] at hown
    rw [hl] at he
    exact ⟨A, c, he, Reads.of_own hown, hfr⟩
end
end Go.Proofs.Ytdkdhhfejbecdaa
