/-
  The methods of a heap of entries, as an interface calls them. No condition.
-/
import Derived.Test.YtndnjdocdfjmcaaChecked
import Derived.Test.YtndnjdocdfjmcaaRowE
import Derived.Test.YtndnjdocdfjmcaaHeapP
import Derived.Deep.QuietTactic
import Derived.StillTailTactics
import Derived.Deep.RegionLaw
namespace Go.Proofs.Ytndnjdocdfjmcaa
open Go.RowKit Go.Proofs
set_option linter.unusedVariables false
theorem meth_val {K : FuncId} {name : String} (hm : ((Try.prog.info? 69).bind (fun i => i.methods.find? (·.name == name))).map (fun m => (m.path, m.func)) = some (#[], some (K, false))) (H : Nat) (A : Option Addr) (n c : Nat) (w : World) (hc : w.cell? ⟨H, 0, none⟩ = some (.slice A n c)) :
    (method 196 69 (.pointer (some ⟨H, 0, none⟩)) name).run Try.prog w = .ok (K, .slice A n c) w := by
  obtain ⟨m, h1, h2⟩ := Option.map_eq_some_iff.1 hm
  obtain ⟨i, h3, h4⟩ := Option.bind_eq_some_iff.1 h1
  injection h2 with h5 h6
  have hu : Try.prog.underlying 69 = some (.pointer 67) := Try.underlying69
  have hl : (loadVar 67 ⟨H, 0, none⟩).run Try.prog w = .ok (.slice A n c) w := by simp [go_sem, hc]
  have hw : ∀ nm : String, (Builtin.ssaWrapNilChk_ #[69] 69 #[.pointer (some ⟨H, 0, none⟩), strVal "", strVal nm]).run Try.prog w = .ok (.pointer (some ⟨H, 0, none⟩)) w := fun _ => rfl
  unfold method
  simp [typeInfo, h3, h4, h5, h6, follow, receiverAt, run_underlying hu, Place.get, hw, asAddr, hl]
theorem mLess : ((Try.prog.info? 69).bind (fun i => i.methods.find? (·.name == "Less"))).map (fun m => (m.path, m.func)) = some (#[], some (53, false)) := by kernel_rfl
theorem mSwap : ((Try.prog.info? 69).bind (fun i => i.methods.find? (·.name == "Swap"))).map (fun m => (m.path, m.func)) = some (#[], some (54, false)) := by kernel_rfl
theorem mPush (H : Nat) (w : World) : (method 196 69 (.pointer (some ⟨H, 0, none⟩)) "Push").run Try.prog w = .ok (56, .pointer (some ⟨H, 0, none⟩)) w := by kernel_rfl
theorem mPop (H : Nat) (w : World) : (method 196 69 (.pointer (some ⟨H, 0, none⟩)) "Pop").run Try.prog w = .ok (55, .pointer (some ⟨H, 0, none⟩)) w := by kernel_rfl
theorem mLen : ((Try.prog.info? 69).bind (fun i => i.methods.find? (·.name == "Len"))).map (fun m => (m.path, m.func)) = some (#[], some (52, false)) := by kernel_rfl
theorem assert31 (v : Value) (w : World) : (Instr.typeAssert (.iface 31 v) 20 31 true).run Try.prog w = .ok (.tuple #[v, .bool true]) w := by kernel_rfl
theorem Try.sl67 : SliceOf Try.prog 67 31 3 32 := SliceOf.mk (z := .agg #[.string ⟨#[]⟩, .int .i64 0, .int .i64 0]) (by kernel_rfl) (by kernel_rfl) (by kernel_rfl) (by omega)
end Go.Proofs.Ytndnjdocdfjmcaa
