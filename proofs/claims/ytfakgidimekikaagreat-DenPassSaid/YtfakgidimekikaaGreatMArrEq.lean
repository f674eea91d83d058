/- Texts merged into one, for the number of files a claim may have: ArrEq. -/
import Derived.Test.YtfakgidimekikaaGreatMA
import Derived.ChangeKeysEq
namespace Go.Proofs.YtfakgidimekikaaGreat
open Go.RowKit Go.Fb

theorem eqItems_int {e : TypeId} {k : IntKind} {P : Program} (he : P.underlying e = some (.int k)) (hc : P.cellsOf e = 1) (d : Nat) (xs ys : Array Value) (f g : Nat → Int) (w : World) :
    ∀ is : List Nat, (∀ j ∈ is, xs[j]? = some (.int k (f j)) ∧ ys[j]? = some (.int k (g j))) → (Op.eqItems (d + 1) e (P.cellsOf e) xs ys is).run P w = .ok (is.all fun j => f j == g j) w
  | [], _ => by simp [Op.eqItems]
  | i :: is, h => by
    obtain ⟨h1, h2⟩ := h i (by simp)
    have ih := eqItems_int he hc d xs ys f g w is (fun j hj => h j (by simp [hj]))
    have p1 : (part e xs (i * P.cellsOf e)).run P w = .ok (.int k (f i)) w := by simp [part, isAgg, run_underlying he, hc, h1]
    have p2 : (part e ys (i * P.cellsOf e)).run P w = .ok (.int k (g i)) w := by simp [part, isAgg, run_underlying he, hc, h2]
    simp only [Op.eqItems, Sem.run_bind, p1, p2, Result.andThen_ok, run_equalIn_int w d e k k (f i) (g i) he]
    cases hb : (f i == g i)
    · simp [hb]
    · simp [ih, hb]
theorem eq8 (r s : Nat → Int) (w : World) : (Op.equalIn 10000 48 (A8 r) (A8 s)).run Tryz.prog w = .ok ((List.range 8).all fun j => r j == s j) w := by
  obtain ⟨i, hi, hz, hsz, hby⟩ := info_parts intinfo
  rw [run_equalIn_array w 9999 _ _ Tryz.underlying48 hi]
  refine eqItems_int Tryz.underlying3 (by kernel_rfl) 9998 _ _ r s w _ (fun j hj => ?_)
  have hj8 : j < 8 := by simpa using hj
  exact ⟨C8_get r hj8, C8_get s hj8⟩
theorem eq8_self (r : Nat → Int) (w : World) : (Op.equalIn 10000 48 (A8 r) (A8 r)).run Tryz.prog w = .ok true w := by
  rw [eq8, List.all_eq_true.2 (fun j _ => by simp)]
end Go.Proofs.YtfakgidimekikaaGreat
