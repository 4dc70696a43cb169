/-
  A string's bytes as numbers, each as a function tells. No program in sight.
-/
import Derived.Test.YtkcmpddefohkeaaBytes
namespace Go.Proofs.Ytkcmpddefohkeaa
open Go.RowKit Go.Proofs
set_option linter.unusedVariables false
def bytesOf (f : Int → Int) (s : ByteArray) : List Int := s.toList.map fun b => f (b.toNat : Int)
theorem bytesOf_len (f : Int → Int) (s : ByteArray) : (bytesOf f s).length = s.size := by
  rw [bytesOf, List.length_map, ByteArray.toList_eq]; rfl
theorem bytesOf_at (f : Int → Int) (s : ByteArray) {i : Nat} (h : i < s.size) : (bytesOf f s)[i]? = some (f ((s[i]'h).toNat : Int)) := by
  rw [bytesOf, List.getElem?_map, ByteArray.toList_eq]
  obtain ⟨⟨l⟩⟩ := s
  have : l[i]? = some (l[i]'(show i < l.length from h)) := List.getElem?_eq_getElem _
  simp [this]
  rfl
theorem byte_bounds (s : ByteArray) {i : Nat} (h : i < s.size) : 0 ≤ ((s[i]'h).toNat : Int) ∧ ((s[i]'h).toNat : Int) ≤ 255 := by
  have := (s[i]'h).toNat_lt
  omega
end Go.Proofs.Ytkcmpddefohkeaa
