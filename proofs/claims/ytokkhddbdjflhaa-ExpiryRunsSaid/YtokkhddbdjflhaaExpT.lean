/- The methods of the row, called through the heap's interface. -/
import Derived.Test.YtokkhddbdjflhaaExpB
set_option linter.unusedVariables false
set_option linter.unusedSimpArgs false
namespace Go.Proofs.Ytokkhddbdjflhaa
open Go.RowKit
theorem chkNil (a : Addr) (s t : ByteArray) (w : World) : (Builtin.ssaWrapNilChk_ #[64] 64 #[.pointer (some a), .string s, .string t]).run Try.prog w = .ok (.pointer (some a)) w := by
  kernel_rfl
theorem rcvRow (a : Addr) (w : World) (o : Option String) (v : Value) (h : (loadVar 56 a).run Try.prog w = .ok v w) : (receiverAt 64 (.val (.pointer (some a))) false o).run Try.prog w = .ok v w := by
  unfold receiverAt
  cases o <;> simp [run_underlying Try.underlying64, Place.get, strVal, chkNil, Result.andThen, asAddr, h]
theorem loadRow (xa : Nat) (p : Option Addr) (n c : Nat) (w : World) (h : w.cell? ⟨xa, 0, none⟩ = some (.slice p n c)) : (loadVar 56 ⟨xa, 0, none⟩).run Try.prog w = .ok (.slice p n c) w := by
  simp [go_sem, h, loadVar, run_underlying Try.underlying56]
theorem typeInfo_run {P : Program} {t : TypeId} {i : TypeInfo} (h : P.info? t = some i) (w : World) : (typeInfo t).run P w = .ok i w := by
  simp [typeInfo, h]
theorem methRow (k : Nat) (nm : String) (f : FuncId) (hf : ((Try.prog.info? 64).bind fun i => (i.methods.find? (·.name == nm)).map fun m => (m.path, m.func)) = some (#[], some (f, false))) (xa : Nat) (p : Option Addr) (n c : Nat) (w : World) (h : w.cell? ⟨xa, 0, none⟩ = some (.slice p n c)) :
    (method (k + 1) 64 (.pointer (some ⟨xa, 0, none⟩)) nm).run Try.prog w = .ok (f, .slice p n c) w := by
  obtain ⟨i, hi, hm⟩ := Option.bind_eq_some_iff.1 hf
  obtain ⟨m, h1, h2⟩ := Option.map_eq_some_iff.1 hm
  have h3 : m.func = some (f, false) := congrArg Prod.snd h2
  replace h2 : m.path = #[] := congrArg Prod.fst h2
  rw [method]
  simp only [Sem.run_bind, typeInfo_run hi, Result.andThen, h1, h2, h3, follow, Sem.run_pure]
  simp [rcvRow _ w _ _ (loadRow xa p n c w h), Result.andThen, follow]
theorem meth_less (xa : Nat) (p : Option Addr) (n c : Nat) (w : World) (h : w.cell? ⟨xa, 0, none⟩ = some (.slice p n c)) : (method 225 64 (.pointer (some ⟨xa, 0, none⟩)) "Less").run Try.prog w = .ok (73, .slice p n c) w := methRow 224 _ _ (by kernel_rfl) xa p n c w h
theorem meth_swap (xa : Nat) (p : Option Addr) (n c : Nat) (w : World) (h : w.cell? ⟨xa, 0, none⟩ = some (.slice p n c)) : (method 225 64 (.pointer (some ⟨xa, 0, none⟩)) "Swap").run Try.prog w = .ok (74, .slice p n c) w := methRow 224 _ _ (by kernel_rfl) xa p n c w h
theorem meth_len (xa : Nat) (p : Option Addr) (n c : Nat) (w : World) (h : w.cell? ⟨xa, 0, none⟩ = some (.slice p n c)) : (method 225 64 (.pointer (some ⟨xa, 0, none⟩)) "Len").run Try.prog w = .ok (72, .slice p n c) w := methRow 224 _ _ (by kernel_rfl) xa p n c w h
theorem meth_pop (a : Addr) (w : World) : (method 225 64 (.pointer (some a)) "Pop").run Try.prog w = .ok (75, .pointer (some a)) w := by kernel_rfl
theorem meth_push (a : Addr) (w : World) : (method 225 64 (.pointer (some a)) "Push").run Try.prog w = .ok (76, .pointer (some a)) w := by kernel_rfl
end Go.Proofs.Ytokkhddbdjflhaa
