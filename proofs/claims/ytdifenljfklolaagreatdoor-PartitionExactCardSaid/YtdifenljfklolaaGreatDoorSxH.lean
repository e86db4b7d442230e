/- Values compared; a row of the call's own, read at a place that is not known. -/
import Derived.Test.YtdifenljfklolaaGreatDoorProg
import Derived.Test.YtdifenljfklolaaGreatDoorSxG
import Derived.Laws.StructEq
set_option linter.unusedVariables false
set_option linter.unusedSimpArgs false
namespace Go.Proofs.YtdifenljfklolaaGreatDoor.Sx
open Go Go.RowKit
abbrev vEq (a b : Bool) (n m : Int) (s u : ByteArray) : Bool := a == b && (n == m && s.toList == u.toList)
theorem val_eq (x y : Operand) (a b : Bool) (n m : Int) (s u : ByteArray) : RunsTo Tryz.prog (binS .eql 54 x y (.agg #[.bool a, .int .i64 n, .string s]) (.agg #[.bool b, .int .i64 m, .string u])) (.bool (vEq a b n m s u)) := by
  intro w
  have hg := run_eqGuard_agg (P := Tryz.prog) w .eql 54 x y #[.bool a, .int .i64 n, .string s] #[.bool b, .int .i64 m, .string u] (by kernel_rfl)
  have h1 := run_equalIn_agg (P := Tryz.prog) w 9999 54 #[.bool a, .int .i64 n, .string s] #[.bool b, .int .i64 m, .string u] (by kernel_rfl) (by kernel_rfl)
  unfold binS
  simp only [Sem.run_bind, hg, Result.andThen_ok, run_eql_struct, h1]
  have hf : (Tryz.prog.fieldsOf 54).toList = [⟨ "Null", 4, 0, false, "", "", 0⟩, ⟨ "N", 2, 1, false, "", "", 8⟩, ⟨ "S", 9, 2, false, "", "", 16⟩] := by kernel_rfl
  have p0 : ∀ (b : Bool) (m : Int) (u : ByteArray), (part 4 #[.bool b, .int .i64 m, .string u] 0).run Tryz.prog w = .ok (.bool b) w := fun b m u => go_pure_run _ ⟨Value.bool b, [], 0, [], []⟩ (by kernel_rfl) w
  have p1 : ∀ (b : Bool) (m : Int) (u : ByteArray), (part 2 #[.bool b, .int .i64 m, .string u] 1).run Tryz.prog w = .ok (.int .i64 m) w := fun b m u => go_pure_run _ ⟨Value.int .i64 m, [], 0, [], []⟩ (by kernel_rfl) w
  have p2 : ∀ (b : Bool) (m : Int) (u : ByteArray), (part 9 #[.bool b, .int .i64 m, .string u] 2).run Tryz.prog w = .ok (.string u) w := fun b m u => go_pure_run _ ⟨Value.string u, [], 0, [], []⟩ (by kernel_rfl) w
  have q0 := fun a b => run_equalIn_bool (P := Tryz.prog) w 9998 4 a b (by kernel_rfl)
  have q1 := fun a b => run_equalIn_int (P := Tryz.prog) w 9998 2 .i64 .i64 a b (by kernel_rfl)
  have q2 := fun a b => run_equalIn_string (P := Tryz.prog) w 9998 9 a b (by kernel_rfl)
  rw [hf]
  simp only [Op.eqFields, ne_eq, String.reduceEq, not_false_eq_true, if_true, Sem.run_bind, Sem.run_ite, p0, p1, p2, q0, q1, q2, Result.andThen_ok, Sem.run_pure, vEq]
  cases a == b <;> cases n == m <;> cases s.toList == u.toList <;> simp
theorem isSome_of {A : Option Addr} {g : Nat} (h : A = some ⟨g, 0, none⟩) : A.isSome = true := by rw [h]; rfl
theorem rowAt' {A : Option Addr} {g n cap m : Nat} (h : A = some ⟨g, 0, none⟩) (j : Nat) : RowAt (.slice A n cap) (((addrOf A).add m).add j) (m + j) := by rw [h]; exact rowAt j
theorem rowAt0' {A : Option Addr} {g n cap m : Nat} (h : A = some ⟨g, 0, none⟩) : RowAt (.slice A n cap) ((addrOf A).add m) m := by rw [h]; exact rowAt0
end Go.Proofs.YtdifenljfklolaaGreatDoor.Sx
