/- The contracts of package octet. -/
import Derived.Test.YtkgllkoooohikaaRows
import Derived.Test.YtkgllkoooohikaaW
namespace Go.Proofs.Ytkgllkoooohikaa
open Go.RowKit Go.Fb

/-- A number's bytes, as Go's shifts make them. -/
def be (n : Int) : List Int := [n % 4294967296 / 16777216, n % 4294967296 / 65536 % 256, n % 4294967296 / 256 % 256, n % 256]
theorem be_length (n : Int) : (be n).length = 4 := rfl
theorem bes_length (l : List Int) : (l.flatMap be).length = 4 * l.length := by
  induction l with
  | nil => rfl
  | cons a l ih => rw [List.flatMap_cons, List.length_append, ih, be_length, List.length_cons]; omega
def fitsB (n : Int) : Bool := decide (-2147483648 ≤ n ∧ n ≤ 2147483647)

theorem bytesTy : SliceTy Try.prog 116 5 1 1 := SliceTy.mk' (z := .int .u8 0) Try.underlying116 (by kernel_rfl) rfl (by omega)
theorem u8info : (Try.prog.info? 5).map (fun i => (i.zero, i.size, i.bytes)) = some (some (.int .u8 0), 1, 1) := by kernel_rfl

theorem strOfNums_eq {a b : List Int} (ha : ∀ x ∈ a, 0 ≤ x ∧ x < 256) (hb : ∀ x ∈ b, 0 ≤ x ∧ x < 256) : (strOfNums a = strOfNums b) ↔ a = b := by
  constructor
  · intro h
    have h1 : a.map (fun n => UInt8.ofNat n.toNat) = b.map (fun n => UInt8.ofNat n.toNat) := by
      have := congrArg (fun s : ByteArray => s.data.toList) h
      simpa [strOfNums] using this
    clear h
    induction a generalizing b with
    | nil => cases b with
      | nil => rfl
      | cons y b => simp at h1
    | cons x a ih => cases b with
      | nil => simp at h1
      | cons y b =>
        simp only [List.map_cons, List.cons.injEq] at h1
        obtain ⟨h2, h3⟩ := h1
        have hx := ha x (by simp)
        have hy := hb y (by simp)
        have e : x = y := by
          have h4 := congrArg UInt8.toNat h2
          simp only [UInt8.toNat_ofNat'] at h4
          omega
        rw [e, ih (fun z hz => ha z (by simp [hz])) (fun z hz => hb z (by simp [hz])) h3]
  · rintro rfl; rfl
theorem be_range (n : Int) : ∀ x ∈ be n, 0 ≤ x ∧ x < 256 := by
  intro x hx
  simp only [be, List.mem_cons, List.not_mem_nil, or_false] at hx
  omega
theorem bes_range (l : List Int) : ∀ x ∈ l.flatMap be, 0 ≤ x ∧ x < 256 := by
  intro x hx
  obtain ⟨n, _, h⟩ := List.mem_flatMap.1 hx
  exact be_range n x h
theorem be_inj {a b : Int} (ha : fitsB a = true) (hb : fitsB b = true) (h : be a = be b) : a = b := by
  simp only [fitsB, decide_eq_true_eq] at ha hb
  simp only [be, List.cons.injEq, and_true] at h
  omega
theorem bes_inj : ∀ {a b : List Int}, a.all fitsB = true → b.all fitsB = true → a.flatMap be = b.flatMap be → a = b
  | [], [], _, _, _ => rfl
  | [], y :: b, _, _, h => by simp [be] at h
  | x :: a, [], _, _, h => by simp [be] at h
  | x :: a, y :: b, ha, hb, h => by
    simp only [List.all_cons, Bool.and_eq_true] at ha hb
    simp only [List.flatMap_cons] at h
    obtain ⟨h1, h2⟩ := List.append_inj h (by rw [be_length, be_length])
    rw [be_inj ha.1 hb.1 h1, bes_inj ha.2 hb.2 h2]

end Go.Proofs.Ytkgllkoooohikaa
