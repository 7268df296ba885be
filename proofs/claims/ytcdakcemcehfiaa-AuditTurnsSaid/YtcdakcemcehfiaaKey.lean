/- The key types of the program's maps. -/
import Derived.Test.YtcdakcemcehfiaaCtx
import Derived.Test.YtcdakcemcehfiaaSxk
namespace Go.Proofs.Ytcdakcemcehfiaa
open Go
set_option maxRecDepth 100000

abbrev Pt := Int × Int
abbrev Hlf := Int × Bool
def kI (n : Int) : Value := .int .i64 n
def k2 (p : Int × Int) : Value := .agg #[.int .i64 p.1, .int .i64 p.2]
def kH (h : Hlf) : Value := .agg #[.int .i64 h.1, .bool h.2]

theorem KI : KeyT cx 3 kI := ⟨[.int .i64], ty3, fun n => [.int .i64 n], rfl, rfl, fun _ => rfl, fun _ => ⟨⟨_, rfl⟩, trivial⟩, fun a b => by simp only [eqV, Bool.and_true]; rfl⟩
theorem dec2 {α β : Type} [DecidableEq α] [DecidableEq β] (a b : α × β) : ((a.1 == b.1) && ((a.2 == b.2) && true)) = decide (a = b) := by
  obtain ⟨a1, a2⟩ := a
  obtain ⟨b1, b2⟩ := b
  rw [Bool.eq_iff_iff]
  simp
theorem KP : KeyT cx 50 k2 := ⟨[.int .i64, .int .i64], ty50, fun p => [.int .i64 p.1, .int .i64 p.2], rfl, rfl, fun _ => rfl, fun _ => ⟨⟨_, rfl⟩, ⟨_, rfl⟩, trivial⟩, fun a b => dec2 a b⟩
theorem K2 : KeyT cx 42 k2 := ⟨[.int .i64, .int .i64], ty42, fun p => [.int .i64 p.1, .int .i64 p.2], rfl, rfl, fun _ => rfl, fun _ => ⟨⟨_, rfl⟩, ⟨_, rfl⟩, trivial⟩, fun a b => dec2 a b⟩
theorem KH : KeyT cx 40 kH := ⟨[.int .i64, .bool], ty40, fun p => [.int .i64 p.1, .bool p.2], rfl, rfl, fun _ => rfl, fun _ => ⟨⟨_, rfl⟩, ⟨_, rfl⟩, trivial⟩, fun a b => dec2 a b⟩
end Go.Proofs.Ytcdakcemcehfiaa
