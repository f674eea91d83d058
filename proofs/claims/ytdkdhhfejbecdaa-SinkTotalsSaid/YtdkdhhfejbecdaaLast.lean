/- The contracts of sink.Last and sink.Window. -/
import Derived.Test.YtdkdhhfejbecdaaBookC
import Derived.Test.YtdkdhhfejbecdaaAdd
namespace Go.Proofs.Ytdkdhhfejbecdaa
open Go.RowKit Go.Fb
theorem results_val_tmp {P : Program} {fn : Func} {p q : Tmp} {ty : TypeId} (h : fn.results = #[.cell p ty, .tmp q]) (tmps : Array Value) (w : World) (g : Nat) (t : TypeId) (cs : Array Value) (fr : Nat × Nat) (d : TypeDesc)
    (hp : tmps.getD p undef = .pointer (some ⟨g, 0, none⟩)) (hg : w.heap[g]? = some (.cells cs t fr))
    (hu : P.underlying ty = some d) (hd : (match d with | .struct _ | .array _ _ => true | _ => false) = true) (hi : (P.info? ty).map (·.size) = some cs.size) :
    (results fn tmps).run P w = .ok (.tuple #[.agg cs, tmps.getD q undef]) w := by
  have hp' : tmps[p]?.getD undef = .pointer (some ⟨g, 0, none⟩) := by simpa using hp
  simp [results, h, hp', asAddr, run_loadVar_row w g t ty cs fr d hg hu hd hi]
section
variable {base gb gm : Nat} {l : List (Nat → Int)} {E : List (Int × Nat)} {ep : Int} {V : Value}
set_option maxRecDepth 100000 in
set_option maxHeartbeats 2000000 in
theorem last_any (w : World) (h : Bk base gb gm l E ep V w) (hn : l.length ≤ 1000000) (s f k : Int) : Calls Try.prog 17 #[.pointer (some ⟨gb, 0, none⟩), .int .i64 s, .int .i64 f, .int .i64 k] w fun e w' =>
    (∃ v, (onlyV l (s, f, k)).getLast? = v ∧ e = .returned (.tuple #[.agg #[.int .i64 (v.getD (0, 0)).1, .int .i64 (v.getD (0, 0)).2], .bool v.isSome])) ∧ Fr w.heap.size [] w w' := by
  have F0 := Lib.hid ((Fr.refl w.heap.size [] w).alloc (Nat.le_refl _) (.cells #[.int .i64 0, .int .i64 0] 32))
  have HO := Lib.hid (bof_any (w.alloc (.cells #[.int .i64 0, .int .i64 0] 32)) (h.keep F0.out) hn s f k)
  have B0 := Lib.hid (Blk.new w 32 #[.int .i64 0, .int .i64 0])
  clear h
  go_enter Try.func17, Try.ntmps17
  go_wp2_with fail
  refine HO.out.mono ?_
  rintro e w' ⟨A, c, rfl, hown, hf⟩
  have hr := Reads.of_own hown
  have B1 := Lib.hid (B0.out.fr hf B0.out.lt (by simp))
  have F1 := Lib.hid (F0.out.trans (hf.mono (B' := w.heap.size) (L' := []) F0.out.size (by simp)))
  have z0 := B1.out.frozen 0
  have z1 := B1.out.frozen 1
  have q0 := B1.out.cell 0
  have q1 := B1.out.cell 1
  simp at q0 q1
  obtain ⟨v, hv⟩ : ∃ v, v = onlyV l (s, f, k) := ⟨_, rfl⟩
  have hvn : v.length ≤ 1000000 := by rw [hv]; have := onlyV_le l (s, f, k); omega
  rw [← hv] at hr ⊢
  have HV := Lib.hid hv
  clear hown hf B0 F0 HO hv
  by_cases h0 : v.length = 0
  · have hv0 : v = [] := List.eq_nil_of_length_eq_zero h0
    subst hv0
    clear hr
    go_wp2_with fail
    have B5 := Lib.hid (show Blk _ _ _ #[.int .i64 0, .int .i64 0] from by have := (B1.out.set_ 0 (.int .i64 0)).set_ 1 (.int .i64 0); simpa using this)
    have F5 := Lib.hid ((F1.out.setCell (p := ⟨w.heap.size, 0, none⟩) (.inl (by simp)) (.int .i64 0)).setCell (p := ⟨w.heap.size, 1, none⟩) (.inl (by simp)) (.int .i64 0))
    exact bodyPost_ret (results_val_tmp rfl _ _ w.heap.size 32 #[.int .i64 0, .int .i64 0] (0, 0) _ rfl B5.out Try.underlying32 rfl (by kernel_rfl)) rfl ⟨⟨none, by rw [← HV.out]; rfl, rfl⟩, F5.out⟩
  · obtain ⟨m, hm⟩ : ∃ m, v.length = m + 1 := ⟨v.length - 1, by omega⟩
    obtain ⟨x, hx⟩ : ∃ x, v[m]? = some x := ⟨_, List.getElem?_eq_getElem (by omega)⟩
    obtain ⟨b, off, rfl, hb, c0, c1⟩ := reads_val hr hx
    have hl : v.getLast? = some x := by rw [List.getLast?_eq_getElem?, hm]; exact hx
    have hmm : ((m + 1 : Nat) : Int) ≠ 0 := by omega
    rw [hm]
    clear hr h0
    go_wp2_with fail
    have B5 := Lib.hid (show Blk _ _ _ #[.int .i64 x.1, .int .i64 x.2] from by have := (B1.out.set_ 0 (.int .i64 x.1)).set_ 1 (.int .i64 x.2); simpa using this)
    have F5 := Lib.hid ((F1.out.setCell (p := ⟨w.heap.size, 0, none⟩) (.inl (by simp)) (.int .i64 x.1)).setCell (p := ⟨w.heap.size, 1, none⟩) (.inl (by simp)) (.int .i64 x.2))
    exact bodyPost_ret (results_val_tmp rfl _ _ w.heap.size 32 #[.int .i64 x.1, .int .i64 x.2] (0, 0) _ rfl B5.out Try.underlying32 rfl (by kernel_rfl)) rfl ⟨⟨some x, by rw [← HV.out]; exact hl, rfl⟩, F5.out⟩
end
end Go.Proofs.Ytdkdhhfejbecdaa
