import Derived.Below
import Derived.Lib.Hide
open Go Go.RowKit
theorem Qh {p : Prop} (h : p) : Hid p := h
theorem Qa {a b : Prop} (h : a) (k : b) : a ∧ b := ⟨h, k⟩
theorem Qb {w : World} {o : Obj} : Below w.heap.size w (w.alloc o) := (Below.refl _ _).alloc (Nat.le_refl _) _
theorem Ql {a b c : Nat} (h : a < b) (k : b ≤ c) : a < c := Nat.lt_of_lt_of_le h k
theorem Qc {w w' : World} {a : Addr} (h : w'.heap[a.block]? = w.heap[a.block]?) : w'.cell? a = w.cell? a := World.cell?_of_block h
theorem Qt {a b c : World} (h : Below a.heap.size a b) (k : Below b.heap.size b c) : Below a.heap.size a c := h.trans (k.mono h.size)
theorem Qg {H n : Nat} (h : n ≤ H) : ∀ j, some H = some j → n ≤ j := fun j e => by injection e with e; omega
abbrev Q6 (z : World) (g : Nat) (k : Int) (n m : ByteArray) (b v : Int) (s : Value) : Prop := z.cell? ⟨g, 0, none⟩ = some (.int .i64 k) ∧ z.cell? ⟨g, 1, none⟩ = some (.string n) ∧ z.cell? ⟨g, 2, none⟩ = some (.string m) ∧ z.cell? ⟨g, 3, none⟩ = some (.int .u64 b) ∧ z.cell? ⟨g, 4, none⟩ = some (.int .i64 v) ∧ z.cell? ⟨g, 5, none⟩ = some s
abbrev Q7 (z : World) (g o : Nat) (k : Int) (n m : ByteArray) (b v : Int) (s : Value) : Prop := z.cell? ⟨g, o, none⟩ = some (.int .i64 k) ∧ z.cell? ⟨g, o + 1, none⟩ = some (.string n) ∧ z.cell? ⟨g, o + 2, none⟩ = some (.string m) ∧ z.cell? ⟨g, o + 3, none⟩ = some (.int .u64 b) ∧ z.cell? ⟨g, o + 4, none⟩ = some (.int .i64 v) ∧ z.cell? ⟨g, o + 5, none⟩ = some s
abbrev Q5 (k : Int) (n m : ByteArray) (b v : Int) (s : Value) : Array Value := #[.int .i64 k, .string n, .string m, .int .u64 b, .int .i64 v, s]
abbrev Qz : Array Value := #[.int .i64 0, .string ⟨#[]⟩, .string ⟨#[]⟩, .int .u64 0, .int .i64 0, .slice none 0 0]
abbrev Qv (v : Int) : Array Value := #[.int .i64 1, .string ⟨#[]⟩, .string ⟨#[]⟩, .int .u64 0, .int .i64 v, .slice none 0 0]
abbrev Qn (k : Int) (n : ByteArray) (s : Value) : Array Value := #[.int .i64 k, .string n, .string ⟨#[]⟩, .int .u64 0, .int .i64 0, s]
