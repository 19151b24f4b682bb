/- MADE BY gen.py: the types that the program's functions name. -/
import Derived.Test.YthchjolcjicpgaaGrow
import Derived.Test.YthchjolcjicpgaaProg
namespace Go.Proofs.Ythchjolcjicpgaa
open Go.HW

def tbl : List (Nat × TI) := [
  (2, ⟨.int .i64, 1, 8, #[(Value.int .i64 0)]⟩),
  (3, ⟨.int .i64, 1, 8, #[(Value.int .i64 0)]⟩),
  (4, ⟨.bool, 1, 1, #[(Value.bool false)]⟩),
  (5, ⟨.int .u8, 1, 1, #[(Value.int .u8 0)]⟩),
  (9, ⟨.string, 1, 16, #[(Value.string ByteArray.empty)]⟩),
  (23, ⟨.slice 40, 1, 24, #[(Value.slice none 0 0)]⟩),
  (25, ⟨.struct #[⟨ "Nodes", 3, 0, false, "", "", 0⟩, ⟨ "Edges", 23, 1, false, "", "", 8⟩], 2, 32, #[(Value.int .i64 0), (Value.slice none 0 0)]⟩),
  (26, ⟨.slice 3, 1, 24, #[(Value.slice none 0 0)]⟩),
  (27, ⟨.int .i64, 1, 8, #[(Value.int .i64 0)]⟩),
  (31, ⟨.struct #[⟨ "Code", 27, 0, false, "", "", 0⟩, ⟨ "At", 3, 1, false, "", "", 8⟩], 2, 16, #[(Value.int .i64 0), (Value.int .i64 0)]⟩),
  (40, ⟨.struct #[⟨ "From", 3, 0, false, "", "", 0⟩, ⟨ "To", 3, 1, false, "", "", 8⟩, ⟨ "Cap", 2, 2, false, "", "", 16⟩, ⟨ "Cost", 2, 3, false, "", "", 24⟩], 4, 32, #[(Value.int .i64 0), (Value.int .i64 0), (Value.int .i64 0), (Value.int .i64 0)]⟩),
  (53, ⟨.struct #[⟨ "Most", 26, 0, false, "", "", 0⟩, ⟨ "Node", 3, 1, false, "", "", 24⟩], 2, 32, #[(Value.slice none 0 0), (Value.int .i64 0)]⟩),
  (58, ⟨.slice 2, 1, 24, #[(Value.slice none 0 0)]⟩),
  (59, ⟨.slice 129, 1, 24, #[(Value.slice none 0 0)]⟩),
  (61, ⟨.struct #[⟨ "Y", 58, 0, false, "", "", 0⟩, ⟨ "Sets", 59, 1, false, "", "", 24⟩], 2, 48, #[(Value.slice none 0 0), (Value.slice none 0 0)]⟩),
  (67, ⟨.slice 130, 1, 24, #[(Value.slice none 0 0)]⟩),
  (69, ⟨.struct #[⟨ "Y", 58, 0, false, "", "", 0⟩, ⟨ "Sets", 67, 1, false, "", "", 24⟩], 2, 48, #[(Value.slice none 0 0), (Value.slice none 0 0)]⟩),
  (72, ⟨.struct #[⟨ "Any", 4, 0, false, "", "", 0⟩, ⟨ "Cost", 2, 1, false, "", "", 8⟩], 2, 16, #[(Value.bool false), (Value.int .i64 0)]⟩),
  (74, ⟨.slice 4, 1, 24, #[(Value.slice none 0 0)]⟩),
  (76, ⟨.pointer 79, 1, 8, #[(Value.pointer none)]⟩),
  (77, ⟨.slice 26, 1, 24, #[(Value.slice none 0 0)]⟩),
  (79, ⟨.struct #[⟨ "g", 25, 0, false, "", "compass/bimatch", 0⟩, ⟨ "left", 3, 2, false, "", "compass/bimatch", 32⟩, ⟨ "out", 77, 3, false, "", "compass/bimatch", 40⟩, ⟨ "by", 26, 4, false, "", "compass/bimatch", 64⟩], 5, 88, #[(Value.int .i64 0), (Value.slice none 0 0), (Value.int .i64 0), (Value.slice none 0 0), (Value.slice none 0 0)]⟩),
  (82, ⟨.pointer 84, 1, 8, #[(Value.pointer none)]⟩),
  (84, ⟨.struct #[⟨ "pairs", 76, 0, true, "", "compass/bimatch", 0⟩, ⟨ "seen", 74, 1, false, "", "compass/bimatch", 8⟩], 2, 32, #[(Value.pointer none), (Value.slice none 0 0)]⟩),
  (85, ⟨.pointer 87, 1, 8, #[(Value.pointer none)]⟩),
  (87, ⟨.struct #[⟨ "pairs", 76, 0, true, "", "compass/bimatch", 0⟩, ⟨ "level", 26, 1, false, "", "compass/bimatch", 8⟩, ⟨ "next", 26, 2, false, "", "compass/bimatch", 32⟩], 3, 56, #[(Value.pointer none), (Value.slice none 0 0), (Value.slice none 0 0)]⟩),
  (98, ⟨.pointer 101, 1, 8, #[(Value.pointer none)]⟩),
  (101, ⟨.struct #[⟨ "g", 25, 0, false, "", "compass/blossom", 0⟩, ⟨ "next", 77, 2, false, "", "compass/blossom", 32⟩, ⟨ "by", 26, 3, false, "", "compass/blossom", 56⟩, ⟨ "base", 26, 4, false, "", "compass/blossom", 80⟩, ⟨ "via", 26, 5, false, "", "compass/blossom", 104⟩, ⟨ "even", 74, 6, false, "", "compass/blossom", 128⟩, ⟨ "queue", 26, 7, false, "", "compass/blossom", 152⟩], 8, 176, #[(Value.int .i64 0), (Value.slice none 0 0), (Value.slice none 0 0), (Value.slice none 0 0), (Value.slice none 0 0), (Value.slice none 0 0), (Value.slice none 0 0), (Value.slice none 0 0)]⟩),
  (115, ⟨.slice 58, 1, 24, #[(Value.slice none 0 0)]⟩),
  (116, ⟨.slice 118, 1, 24, #[(Value.slice none 0 0)]⟩),
  (118, ⟨.struct #[⟨ "u", 3, 0, false, "", "compass/perfect", 0⟩, ⟨ "v", 3, 1, false, "", "compass/perfect", 8⟩, ⟨ "twice", 2, 2, false, "", "compass/perfect", 16⟩], 3, 24, #[(Value.int .i64 0), (Value.int .i64 0), (Value.int .i64 0)]⟩),
  (129, ⟨.struct #[⟨ "Nodes", 26, 0, false, "", "", 0⟩, ⟨ "Z", 2, 1, false, "", "", 24⟩], 2, 32, #[(Value.slice none 0 0), (Value.int .i64 0)]⟩),
  (130, ⟨.struct #[⟨ "Nodes", 26, 0, false, "", "", 0⟩, ⟨ "Z", 2, 1, false, "", "", 24⟩], 2, 32, #[(Value.slice none 0 0), (Value.int .i64 0)]⟩),
  (133, ⟨.int .u64, 1, 8, #[(Value.int .u64 0)]⟩),
  (135, ⟨.struct #[⟨ "code", 27, 0, false, "", "compass/vouch", 0⟩], 1, 8, #[(Value.int .i64 0)]⟩),
  (138, ⟨.array 2 3, 2, 16, #[(Value.int .i64 0), (Value.int .i64 0)]⟩),
  (143, ⟨.slice 150, 1, 24, #[(Value.slice none 0 0)]⟩),
  (145, ⟨.struct #[⟨ "n", 3, 0, false, "", "compass/perfect", 0⟩, ⟨ "edges", 116, 1, false, "", "compass/perfect", 8⟩, ⟨ "y", 58, 2, false, "", "compass/perfect", 32⟩, ⟨ "by", 26, 3, false, "", "compass/perfect", 56⟩, ⟨ "knots", 143, 4, false, "", "compass/perfect", 80⟩, ⟨ "surf", 26, 5, false, "", "compass/perfect", 104⟩], 6, 128, #[(Value.int .i64 0), (Value.slice none 0 0), (Value.slice none 0 0), (Value.slice none 0 0), (Value.slice none 0 0), (Value.slice none 0 0)]⟩),
  (146, ⟨.slice 148, 1, 24, #[(Value.slice none 0 0)]⟩),
  (148, ⟨.struct #[⟨ "edge", 3, 0, false, "", "compass/perfect", 0⟩, ⟨ "in", 3, 1, false, "", "compass/perfect", 8⟩, ⟨ "out", 3, 2, false, "", "compass/perfect", 16⟩], 3, 24, #[(Value.int .i64 0), (Value.int .i64 0), (Value.int .i64 0)]⟩),
  (150, ⟨.struct #[⟨ "kids", 26, 0, false, "", "compass/perfect", 0⟩, ⟨ "links", 146, 1, false, "", "compass/perfect", 24⟩, ⟨ "base", 3, 2, false, "", "compass/perfect", 48⟩, ⟨ "z", 2, 3, false, "", "compass/perfect", 56⟩, ⟨ "label", 3, 4, false, "", "compass/perfect", 64⟩, ⟨ "via", 148, 5, false, "", "compass/perfect", 72⟩, ⟨ "up", 3, 8, false, "", "compass/perfect", 96⟩], 9, 104, #[(Value.slice none 0 0), (Value.slice none 0 0), (Value.int .i64 0), (Value.int .i64 0), (Value.int .i64 0), (Value.int .i64 0), (Value.int .i64 0), (Value.int .i64 0), (Value.int .i64 0)]⟩),
  (156, ⟨.int .i64, 1, 8, #[(Value.int .i64 0)]⟩),
  (164, ⟨.int .u32, 1, 4, #[(Value.int .u32 0)]⟩),
  (166, ⟨.int .u64, 1, 8, #[(Value.int .u64 0)]⟩),
  (173, ⟨.int .u64, 1, 8, #[(Value.int .u64 0)]⟩)]
def T : TT := fun t => tbl.lookup t

theorem tbl_ok : tbl.map (fun p => (Try.prog.underlying p.1, Try.prog.stoodInHeld p.1, (Try.prog.info? p.1).map fun i => (i.size, i.bytes, i.zero.map Value.cells))) = tbl.map (fun p => (some p.2.desc, false, some (p.2.size, p.2.bytes, some p.2.zero))) := by kernel_rfl

theorem TOKT : TOK Try.prog T := by
  intro t x h
  have key : ∀ l : List (Nat × TI), l.map (fun p => (Try.prog.underlying p.1, Try.prog.stoodInHeld p.1, (Try.prog.info? p.1).map fun i => (i.size, i.bytes, i.zero.map Value.cells))) = l.map (fun p => (some p.2.desc, false, some (p.2.size, p.2.bytes, some p.2.zero))) →
      l.lookup t = some x → Try.prog.underlying t = some x.desc ∧ ∃ i z, Try.prog.info? t = some i ∧ i.size = x.size ∧ i.bytes = x.bytes ∧ i.zero = some z ∧ z.cells = x.zero ∧ Try.prog.stoodInHeld t = false := by
    intro l
    induction l with
    | nil => intro _ h; simp at h
    | cons p l ih =>
      obtain ⟨k, y⟩ := p
      intro h1 h2
      simp only [List.map_cons, List.cons.injEq, Prod.mk.injEq] at h1
      simp only [List.lookup_cons] at h2
      by_cases e : t = k
      · subst e
        simp only [beq_self_eq_true, Option.some.injEq] at h2
        subst h2
        refine ⟨h1.1.1, ?_⟩
        have h7 := h1.1.2.1
        have h3 := h1.1.2.2
        cases hi : Try.prog.info? t with
        | none => rw [hi] at h3; cases h3
        | some i =>
          rw [hi] at h3
          simp only [Option.map_some, Option.some.injEq, Prod.mk.injEq] at h3
          obtain ⟨h4, h5, h6⟩ := h3
          cases hz : i.zero with
          | none => rw [hz] at h6; cases h6
          | some z =>
            rw [hz] at h6
            simp only [Option.map_some, Option.some.injEq] at h6
            exact ⟨i, z, rfl, h4, h5, hz, h6, h7⟩
      · rw [show (t == k) = false by simpa using e] at h2
        exact ih h1.2 h2
  exact key tbl tbl_ok h

theorem mixed : Try.prog.follows .mixedOrders = true := by kernel_rfl

@[simp] theorem ld_2 (b o : Nat) (h : Heap) : ldV T 2 (.pointer (some ⟨b, o, none⟩)) h = h.cell b o := by kernel_rfl
@[simp] theorem st_2 (b o : Nat) (v : Value) (h : Heap) : stV T 2 (.pointer (some ⟨b, o, none⟩)) v h = (if v.cells.size = 1 then setL h ⟨b, o, none⟩ 0 v.cells.toList else none) := by kernel_rfl
@[simp] theorem ld_3 (b o : Nat) (h : Heap) : ldV T 3 (.pointer (some ⟨b, o, none⟩)) h = h.cell b o := by kernel_rfl
@[simp] theorem st_3 (b o : Nat) (v : Value) (h : Heap) : stV T 3 (.pointer (some ⟨b, o, none⟩)) v h = (if v.cells.size = 1 then setL h ⟨b, o, none⟩ 0 v.cells.toList else none) := by kernel_rfl
@[simp] theorem ld_4 (b o : Nat) (h : Heap) : ldV T 4 (.pointer (some ⟨b, o, none⟩)) h = h.cell b o := by kernel_rfl
@[simp] theorem st_4 (b o : Nat) (v : Value) (h : Heap) : stV T 4 (.pointer (some ⟨b, o, none⟩)) v h = (if v.cells.size = 1 then setL h ⟨b, o, none⟩ 0 v.cells.toList else none) := by kernel_rfl
@[simp] theorem ld_5 (b o : Nat) (h : Heap) : ldV T 5 (.pointer (some ⟨b, o, none⟩)) h = h.cell b o := by kernel_rfl
@[simp] theorem st_5 (b o : Nat) (v : Value) (h : Heap) : stV T 5 (.pointer (some ⟨b, o, none⟩)) v h = (if v.cells.size = 1 then setL h ⟨b, o, none⟩ 0 v.cells.toList else none) := by kernel_rfl
@[simp] theorem ld_9 (b o : Nat) (h : Heap) : ldV T 9 (.pointer (some ⟨b, o, none⟩)) h = h.cell b o := by kernel_rfl
@[simp] theorem st_9 (b o : Nat) (v : Value) (h : Heap) : stV T 9 (.pointer (some ⟨b, o, none⟩)) v h = (if v.cells.size = 1 then setL h ⟨b, o, none⟩ 0 v.cells.toList else none) := by kernel_rfl
@[simp] theorem ld_23 (b o : Nat) (h : Heap) : ldV T 23 (.pointer (some ⟨b, o, none⟩)) h = h.cell b o := by kernel_rfl
@[simp] theorem st_23 (b o : Nat) (v : Value) (h : Heap) : stV T 23 (.pointer (some ⟨b, o, none⟩)) v h = (if v.cells.size = 1 then setL h ⟨b, o, none⟩ 0 v.cells.toList else none) := by kernel_rfl
@[simp] theorem ix_23 (a : Addr) (len cap : Nat) (k : IntKind) (n : Int) : ixV T 23 (.slice (some a) len cap) (.int k n) = (if 0 ≤ n ∧ n < len then some (.pointer (some (a.add (n.toNat * 4)))) else none) := by kernel_rfl
@[simp] theorem len_23 (A : Option Addr) (len cap : Nat) : lenV T 23 (.slice A len cap) = some (.int .i64 len) := by kernel_rfl
@[simp] theorem fld_25_0 (b o : Nat) : fldV T 25 (.pointer (some ⟨b, o, none⟩)) 0 = some (.pointer (some ⟨b, o, none⟩)) := by kernel_rfl
@[simp] theorem fld_25_1 (b o : Nat) : fldV T 25 (.pointer (some ⟨b, o, none⟩)) 1 = some (.pointer (some ⟨b, o + 1, none⟩)) := by kernel_rfl
@[simp] theorem ld_25 (b o : Nat) (h : Heap) : ldV T 25 (.pointer (some ⟨b, o, none⟩)) h = (cellsL h ⟨b, o, none⟩ 0 2).map fun l => .agg l.toArray := by kernel_rfl
@[simp] theorem st_25 (b o : Nat) (v : Value) (h : Heap) : stV T 25 (.pointer (some ⟨b, o, none⟩)) v h = (if v.cells.size = 2 then setL h ⟨b, o, none⟩ 0 v.cells.toList else none) := by kernel_rfl
@[simp] theorem ld_26 (b o : Nat) (h : Heap) : ldV T 26 (.pointer (some ⟨b, o, none⟩)) h = h.cell b o := by kernel_rfl
@[simp] theorem st_26 (b o : Nat) (v : Value) (h : Heap) : stV T 26 (.pointer (some ⟨b, o, none⟩)) v h = (if v.cells.size = 1 then setL h ⟨b, o, none⟩ 0 v.cells.toList else none) := by kernel_rfl
@[simp] theorem ix_26 (a : Addr) (len cap : Nat) (k : IntKind) (n : Int) : ixV T 26 (.slice (some a) len cap) (.int k n) = (if 0 ≤ n ∧ n < len then some (.pointer (some (a.add (n.toNat * 1)))) else none) := by kernel_rfl
@[simp] theorem len_26 (A : Option Addr) (len cap : Nat) : lenV T 26 (.slice A len cap) = some (.int .i64 len) := by kernel_rfl
@[simp] theorem ld_27 (b o : Nat) (h : Heap) : ldV T 27 (.pointer (some ⟨b, o, none⟩)) h = h.cell b o := by kernel_rfl
@[simp] theorem st_27 (b o : Nat) (v : Value) (h : Heap) : stV T 27 (.pointer (some ⟨b, o, none⟩)) v h = (if v.cells.size = 1 then setL h ⟨b, o, none⟩ 0 v.cells.toList else none) := by kernel_rfl
@[simp] theorem fld_31_0 (b o : Nat) : fldV T 31 (.pointer (some ⟨b, o, none⟩)) 0 = some (.pointer (some ⟨b, o, none⟩)) := by kernel_rfl
@[simp] theorem fld_31_1 (b o : Nat) : fldV T 31 (.pointer (some ⟨b, o, none⟩)) 1 = some (.pointer (some ⟨b, o + 1, none⟩)) := by kernel_rfl
@[simp] theorem ld_31 (b o : Nat) (h : Heap) : ldV T 31 (.pointer (some ⟨b, o, none⟩)) h = (cellsL h ⟨b, o, none⟩ 0 2).map fun l => .agg l.toArray := by kernel_rfl
@[simp] theorem st_31 (b o : Nat) (v : Value) (h : Heap) : stV T 31 (.pointer (some ⟨b, o, none⟩)) v h = (if v.cells.size = 2 then setL h ⟨b, o, none⟩ 0 v.cells.toList else none) := by kernel_rfl
@[simp] theorem fld_40_0 (b o : Nat) : fldV T 40 (.pointer (some ⟨b, o, none⟩)) 0 = some (.pointer (some ⟨b, o, none⟩)) := by kernel_rfl
@[simp] theorem fld_40_1 (b o : Nat) : fldV T 40 (.pointer (some ⟨b, o, none⟩)) 1 = some (.pointer (some ⟨b, o + 1, none⟩)) := by kernel_rfl
@[simp] theorem fld_40_2 (b o : Nat) : fldV T 40 (.pointer (some ⟨b, o, none⟩)) 2 = some (.pointer (some ⟨b, o + 2, none⟩)) := by kernel_rfl
@[simp] theorem fld_40_3 (b o : Nat) : fldV T 40 (.pointer (some ⟨b, o, none⟩)) 3 = some (.pointer (some ⟨b, o + 3, none⟩)) := by kernel_rfl
@[simp] theorem ld_40 (b o : Nat) (h : Heap) : ldV T 40 (.pointer (some ⟨b, o, none⟩)) h = (cellsL h ⟨b, o, none⟩ 0 4).map fun l => .agg l.toArray := by kernel_rfl
@[simp] theorem st_40 (b o : Nat) (v : Value) (h : Heap) : stV T 40 (.pointer (some ⟨b, o, none⟩)) v h = (if v.cells.size = 4 then setL h ⟨b, o, none⟩ 0 v.cells.toList else none) := by kernel_rfl
@[simp] theorem fld_53_0 (b o : Nat) : fldV T 53 (.pointer (some ⟨b, o, none⟩)) 0 = some (.pointer (some ⟨b, o, none⟩)) := by kernel_rfl
@[simp] theorem fld_53_1 (b o : Nat) : fldV T 53 (.pointer (some ⟨b, o, none⟩)) 1 = some (.pointer (some ⟨b, o + 1, none⟩)) := by kernel_rfl
@[simp] theorem ld_53 (b o : Nat) (h : Heap) : ldV T 53 (.pointer (some ⟨b, o, none⟩)) h = (cellsL h ⟨b, o, none⟩ 0 2).map fun l => .agg l.toArray := by kernel_rfl
@[simp] theorem st_53 (b o : Nat) (v : Value) (h : Heap) : stV T 53 (.pointer (some ⟨b, o, none⟩)) v h = (if v.cells.size = 2 then setL h ⟨b, o, none⟩ 0 v.cells.toList else none) := by kernel_rfl
@[simp] theorem ld_58 (b o : Nat) (h : Heap) : ldV T 58 (.pointer (some ⟨b, o, none⟩)) h = h.cell b o := by kernel_rfl
@[simp] theorem st_58 (b o : Nat) (v : Value) (h : Heap) : stV T 58 (.pointer (some ⟨b, o, none⟩)) v h = (if v.cells.size = 1 then setL h ⟨b, o, none⟩ 0 v.cells.toList else none) := by kernel_rfl
@[simp] theorem ix_58 (a : Addr) (len cap : Nat) (k : IntKind) (n : Int) : ixV T 58 (.slice (some a) len cap) (.int k n) = (if 0 ≤ n ∧ n < len then some (.pointer (some (a.add (n.toNat * 1)))) else none) := by kernel_rfl
@[simp] theorem len_58 (A : Option Addr) (len cap : Nat) : lenV T 58 (.slice A len cap) = some (.int .i64 len) := by kernel_rfl
@[simp] theorem ld_59 (b o : Nat) (h : Heap) : ldV T 59 (.pointer (some ⟨b, o, none⟩)) h = h.cell b o := by kernel_rfl
@[simp] theorem st_59 (b o : Nat) (v : Value) (h : Heap) : stV T 59 (.pointer (some ⟨b, o, none⟩)) v h = (if v.cells.size = 1 then setL h ⟨b, o, none⟩ 0 v.cells.toList else none) := by kernel_rfl
@[simp] theorem ix_59 (a : Addr) (len cap : Nat) (k : IntKind) (n : Int) : ixV T 59 (.slice (some a) len cap) (.int k n) = (if 0 ≤ n ∧ n < len then some (.pointer (some (a.add (n.toNat * 2)))) else none) := by kernel_rfl
@[simp] theorem len_59 (A : Option Addr) (len cap : Nat) : lenV T 59 (.slice A len cap) = some (.int .i64 len) := by kernel_rfl
@[simp] theorem fld_61_0 (b o : Nat) : fldV T 61 (.pointer (some ⟨b, o, none⟩)) 0 = some (.pointer (some ⟨b, o, none⟩)) := by kernel_rfl
@[simp] theorem fld_61_1 (b o : Nat) : fldV T 61 (.pointer (some ⟨b, o, none⟩)) 1 = some (.pointer (some ⟨b, o + 1, none⟩)) := by kernel_rfl
@[simp] theorem ld_61 (b o : Nat) (h : Heap) : ldV T 61 (.pointer (some ⟨b, o, none⟩)) h = (cellsL h ⟨b, o, none⟩ 0 2).map fun l => .agg l.toArray := by kernel_rfl
@[simp] theorem st_61 (b o : Nat) (v : Value) (h : Heap) : stV T 61 (.pointer (some ⟨b, o, none⟩)) v h = (if v.cells.size = 2 then setL h ⟨b, o, none⟩ 0 v.cells.toList else none) := by kernel_rfl
@[simp] theorem ld_67 (b o : Nat) (h : Heap) : ldV T 67 (.pointer (some ⟨b, o, none⟩)) h = h.cell b o := by kernel_rfl
@[simp] theorem st_67 (b o : Nat) (v : Value) (h : Heap) : stV T 67 (.pointer (some ⟨b, o, none⟩)) v h = (if v.cells.size = 1 then setL h ⟨b, o, none⟩ 0 v.cells.toList else none) := by kernel_rfl
@[simp] theorem ix_67 (a : Addr) (len cap : Nat) (k : IntKind) (n : Int) : ixV T 67 (.slice (some a) len cap) (.int k n) = (if 0 ≤ n ∧ n < len then some (.pointer (some (a.add (n.toNat * 2)))) else none) := by kernel_rfl
@[simp] theorem len_67 (A : Option Addr) (len cap : Nat) : lenV T 67 (.slice A len cap) = some (.int .i64 len) := by kernel_rfl
@[simp] theorem fld_69_0 (b o : Nat) : fldV T 69 (.pointer (some ⟨b, o, none⟩)) 0 = some (.pointer (some ⟨b, o, none⟩)) := by kernel_rfl
@[simp] theorem fld_69_1 (b o : Nat) : fldV T 69 (.pointer (some ⟨b, o, none⟩)) 1 = some (.pointer (some ⟨b, o + 1, none⟩)) := by kernel_rfl
@[simp] theorem ld_69 (b o : Nat) (h : Heap) : ldV T 69 (.pointer (some ⟨b, o, none⟩)) h = (cellsL h ⟨b, o, none⟩ 0 2).map fun l => .agg l.toArray := by kernel_rfl
@[simp] theorem st_69 (b o : Nat) (v : Value) (h : Heap) : stV T 69 (.pointer (some ⟨b, o, none⟩)) v h = (if v.cells.size = 2 then setL h ⟨b, o, none⟩ 0 v.cells.toList else none) := by kernel_rfl
@[simp] theorem fld_72_0 (b o : Nat) : fldV T 72 (.pointer (some ⟨b, o, none⟩)) 0 = some (.pointer (some ⟨b, o, none⟩)) := by kernel_rfl
@[simp] theorem fld_72_1 (b o : Nat) : fldV T 72 (.pointer (some ⟨b, o, none⟩)) 1 = some (.pointer (some ⟨b, o + 1, none⟩)) := by kernel_rfl
@[simp] theorem ld_72 (b o : Nat) (h : Heap) : ldV T 72 (.pointer (some ⟨b, o, none⟩)) h = (cellsL h ⟨b, o, none⟩ 0 2).map fun l => .agg l.toArray := by kernel_rfl
@[simp] theorem st_72 (b o : Nat) (v : Value) (h : Heap) : stV T 72 (.pointer (some ⟨b, o, none⟩)) v h = (if v.cells.size = 2 then setL h ⟨b, o, none⟩ 0 v.cells.toList else none) := by kernel_rfl
@[simp] theorem ld_74 (b o : Nat) (h : Heap) : ldV T 74 (.pointer (some ⟨b, o, none⟩)) h = h.cell b o := by kernel_rfl
@[simp] theorem st_74 (b o : Nat) (v : Value) (h : Heap) : stV T 74 (.pointer (some ⟨b, o, none⟩)) v h = (if v.cells.size = 1 then setL h ⟨b, o, none⟩ 0 v.cells.toList else none) := by kernel_rfl
@[simp] theorem ix_74 (a : Addr) (len cap : Nat) (k : IntKind) (n : Int) : ixV T 74 (.slice (some a) len cap) (.int k n) = (if 0 ≤ n ∧ n < len then some (.pointer (some (a.add (n.toNat * 1)))) else none) := by kernel_rfl
@[simp] theorem len_74 (A : Option Addr) (len cap : Nat) : lenV T 74 (.slice A len cap) = some (.int .i64 len) := by kernel_rfl
@[simp] theorem ld_76 (b o : Nat) (h : Heap) : ldV T 76 (.pointer (some ⟨b, o, none⟩)) h = h.cell b o := by kernel_rfl
@[simp] theorem st_76 (b o : Nat) (v : Value) (h : Heap) : stV T 76 (.pointer (some ⟨b, o, none⟩)) v h = (if v.cells.size = 1 then setL h ⟨b, o, none⟩ 0 v.cells.toList else none) := by kernel_rfl
@[simp] theorem ld_77 (b o : Nat) (h : Heap) : ldV T 77 (.pointer (some ⟨b, o, none⟩)) h = h.cell b o := by kernel_rfl
@[simp] theorem st_77 (b o : Nat) (v : Value) (h : Heap) : stV T 77 (.pointer (some ⟨b, o, none⟩)) v h = (if v.cells.size = 1 then setL h ⟨b, o, none⟩ 0 v.cells.toList else none) := by kernel_rfl
@[simp] theorem ix_77 (a : Addr) (len cap : Nat) (k : IntKind) (n : Int) : ixV T 77 (.slice (some a) len cap) (.int k n) = (if 0 ≤ n ∧ n < len then some (.pointer (some (a.add (n.toNat * 1)))) else none) := by kernel_rfl
@[simp] theorem len_77 (A : Option Addr) (len cap : Nat) : lenV T 77 (.slice A len cap) = some (.int .i64 len) := by kernel_rfl
@[simp] theorem fld_79_0 (b o : Nat) : fldV T 79 (.pointer (some ⟨b, o, none⟩)) 0 = some (.pointer (some ⟨b, o, none⟩)) := by kernel_rfl
@[simp] theorem fld_79_1 (b o : Nat) : fldV T 79 (.pointer (some ⟨b, o, none⟩)) 1 = some (.pointer (some ⟨b, o + 2, none⟩)) := by kernel_rfl
@[simp] theorem fld_79_2 (b o : Nat) : fldV T 79 (.pointer (some ⟨b, o, none⟩)) 2 = some (.pointer (some ⟨b, o + 3, none⟩)) := by kernel_rfl
@[simp] theorem fld_79_3 (b o : Nat) : fldV T 79 (.pointer (some ⟨b, o, none⟩)) 3 = some (.pointer (some ⟨b, o + 4, none⟩)) := by kernel_rfl
@[simp] theorem ld_79 (b o : Nat) (h : Heap) : ldV T 79 (.pointer (some ⟨b, o, none⟩)) h = (cellsL h ⟨b, o, none⟩ 0 5).map fun l => .agg l.toArray := by kernel_rfl
@[simp] theorem st_79 (b o : Nat) (v : Value) (h : Heap) : stV T 79 (.pointer (some ⟨b, o, none⟩)) v h = (if v.cells.size = 5 then setL h ⟨b, o, none⟩ 0 v.cells.toList else none) := by kernel_rfl
@[simp] theorem ld_82 (b o : Nat) (h : Heap) : ldV T 82 (.pointer (some ⟨b, o, none⟩)) h = h.cell b o := by kernel_rfl
@[simp] theorem st_82 (b o : Nat) (v : Value) (h : Heap) : stV T 82 (.pointer (some ⟨b, o, none⟩)) v h = (if v.cells.size = 1 then setL h ⟨b, o, none⟩ 0 v.cells.toList else none) := by kernel_rfl
@[simp] theorem fld_84_0 (b o : Nat) : fldV T 84 (.pointer (some ⟨b, o, none⟩)) 0 = some (.pointer (some ⟨b, o, none⟩)) := by kernel_rfl
@[simp] theorem fld_84_1 (b o : Nat) : fldV T 84 (.pointer (some ⟨b, o, none⟩)) 1 = some (.pointer (some ⟨b, o + 1, none⟩)) := by kernel_rfl
@[simp] theorem ld_84 (b o : Nat) (h : Heap) : ldV T 84 (.pointer (some ⟨b, o, none⟩)) h = (cellsL h ⟨b, o, none⟩ 0 2).map fun l => .agg l.toArray := by kernel_rfl
@[simp] theorem st_84 (b o : Nat) (v : Value) (h : Heap) : stV T 84 (.pointer (some ⟨b, o, none⟩)) v h = (if v.cells.size = 2 then setL h ⟨b, o, none⟩ 0 v.cells.toList else none) := by kernel_rfl
@[simp] theorem ld_85 (b o : Nat) (h : Heap) : ldV T 85 (.pointer (some ⟨b, o, none⟩)) h = h.cell b o := by kernel_rfl
@[simp] theorem st_85 (b o : Nat) (v : Value) (h : Heap) : stV T 85 (.pointer (some ⟨b, o, none⟩)) v h = (if v.cells.size = 1 then setL h ⟨b, o, none⟩ 0 v.cells.toList else none) := by kernel_rfl
@[simp] theorem fld_87_0 (b o : Nat) : fldV T 87 (.pointer (some ⟨b, o, none⟩)) 0 = some (.pointer (some ⟨b, o, none⟩)) := by kernel_rfl
@[simp] theorem fld_87_1 (b o : Nat) : fldV T 87 (.pointer (some ⟨b, o, none⟩)) 1 = some (.pointer (some ⟨b, o + 1, none⟩)) := by kernel_rfl
@[simp] theorem fld_87_2 (b o : Nat) : fldV T 87 (.pointer (some ⟨b, o, none⟩)) 2 = some (.pointer (some ⟨b, o + 2, none⟩)) := by kernel_rfl
@[simp] theorem ld_87 (b o : Nat) (h : Heap) : ldV T 87 (.pointer (some ⟨b, o, none⟩)) h = (cellsL h ⟨b, o, none⟩ 0 3).map fun l => .agg l.toArray := by kernel_rfl
@[simp] theorem st_87 (b o : Nat) (v : Value) (h : Heap) : stV T 87 (.pointer (some ⟨b, o, none⟩)) v h = (if v.cells.size = 3 then setL h ⟨b, o, none⟩ 0 v.cells.toList else none) := by kernel_rfl
@[simp] theorem ld_98 (b o : Nat) (h : Heap) : ldV T 98 (.pointer (some ⟨b, o, none⟩)) h = h.cell b o := by kernel_rfl
@[simp] theorem st_98 (b o : Nat) (v : Value) (h : Heap) : stV T 98 (.pointer (some ⟨b, o, none⟩)) v h = (if v.cells.size = 1 then setL h ⟨b, o, none⟩ 0 v.cells.toList else none) := by kernel_rfl
@[simp] theorem fld_101_0 (b o : Nat) : fldV T 101 (.pointer (some ⟨b, o, none⟩)) 0 = some (.pointer (some ⟨b, o, none⟩)) := by kernel_rfl
@[simp] theorem fld_101_1 (b o : Nat) : fldV T 101 (.pointer (some ⟨b, o, none⟩)) 1 = some (.pointer (some ⟨b, o + 2, none⟩)) := by kernel_rfl
@[simp] theorem fld_101_2 (b o : Nat) : fldV T 101 (.pointer (some ⟨b, o, none⟩)) 2 = some (.pointer (some ⟨b, o + 3, none⟩)) := by kernel_rfl
@[simp] theorem fld_101_3 (b o : Nat) : fldV T 101 (.pointer (some ⟨b, o, none⟩)) 3 = some (.pointer (some ⟨b, o + 4, none⟩)) := by kernel_rfl
@[simp] theorem fld_101_4 (b o : Nat) : fldV T 101 (.pointer (some ⟨b, o, none⟩)) 4 = some (.pointer (some ⟨b, o + 5, none⟩)) := by kernel_rfl
@[simp] theorem fld_101_5 (b o : Nat) : fldV T 101 (.pointer (some ⟨b, o, none⟩)) 5 = some (.pointer (some ⟨b, o + 6, none⟩)) := by kernel_rfl
@[simp] theorem fld_101_6 (b o : Nat) : fldV T 101 (.pointer (some ⟨b, o, none⟩)) 6 = some (.pointer (some ⟨b, o + 7, none⟩)) := by kernel_rfl
@[simp] theorem ld_101 (b o : Nat) (h : Heap) : ldV T 101 (.pointer (some ⟨b, o, none⟩)) h = (cellsL h ⟨b, o, none⟩ 0 8).map fun l => .agg l.toArray := by kernel_rfl
@[simp] theorem st_101 (b o : Nat) (v : Value) (h : Heap) : stV T 101 (.pointer (some ⟨b, o, none⟩)) v h = (if v.cells.size = 8 then setL h ⟨b, o, none⟩ 0 v.cells.toList else none) := by kernel_rfl
@[simp] theorem ld_115 (b o : Nat) (h : Heap) : ldV T 115 (.pointer (some ⟨b, o, none⟩)) h = h.cell b o := by kernel_rfl
@[simp] theorem st_115 (b o : Nat) (v : Value) (h : Heap) : stV T 115 (.pointer (some ⟨b, o, none⟩)) v h = (if v.cells.size = 1 then setL h ⟨b, o, none⟩ 0 v.cells.toList else none) := by kernel_rfl
@[simp] theorem ix_115 (a : Addr) (len cap : Nat) (k : IntKind) (n : Int) : ixV T 115 (.slice (some a) len cap) (.int k n) = (if 0 ≤ n ∧ n < len then some (.pointer (some (a.add (n.toNat * 1)))) else none) := by kernel_rfl
@[simp] theorem len_115 (A : Option Addr) (len cap : Nat) : lenV T 115 (.slice A len cap) = some (.int .i64 len) := by kernel_rfl
@[simp] theorem ld_116 (b o : Nat) (h : Heap) : ldV T 116 (.pointer (some ⟨b, o, none⟩)) h = h.cell b o := by kernel_rfl
@[simp] theorem st_116 (b o : Nat) (v : Value) (h : Heap) : stV T 116 (.pointer (some ⟨b, o, none⟩)) v h = (if v.cells.size = 1 then setL h ⟨b, o, none⟩ 0 v.cells.toList else none) := by kernel_rfl
@[simp] theorem ix_116 (a : Addr) (len cap : Nat) (k : IntKind) (n : Int) : ixV T 116 (.slice (some a) len cap) (.int k n) = (if 0 ≤ n ∧ n < len then some (.pointer (some (a.add (n.toNat * 3)))) else none) := by kernel_rfl
@[simp] theorem len_116 (A : Option Addr) (len cap : Nat) : lenV T 116 (.slice A len cap) = some (.int .i64 len) := by kernel_rfl
@[simp] theorem fld_118_0 (b o : Nat) : fldV T 118 (.pointer (some ⟨b, o, none⟩)) 0 = some (.pointer (some ⟨b, o, none⟩)) := by kernel_rfl
@[simp] theorem fld_118_1 (b o : Nat) : fldV T 118 (.pointer (some ⟨b, o, none⟩)) 1 = some (.pointer (some ⟨b, o + 1, none⟩)) := by kernel_rfl
@[simp] theorem fld_118_2 (b o : Nat) : fldV T 118 (.pointer (some ⟨b, o, none⟩)) 2 = some (.pointer (some ⟨b, o + 2, none⟩)) := by kernel_rfl
@[simp] theorem ld_118 (b o : Nat) (h : Heap) : ldV T 118 (.pointer (some ⟨b, o, none⟩)) h = (cellsL h ⟨b, o, none⟩ 0 3).map fun l => .agg l.toArray := by kernel_rfl
@[simp] theorem st_118 (b o : Nat) (v : Value) (h : Heap) : stV T 118 (.pointer (some ⟨b, o, none⟩)) v h = (if v.cells.size = 3 then setL h ⟨b, o, none⟩ 0 v.cells.toList else none) := by kernel_rfl
@[simp] theorem fld_129_0 (b o : Nat) : fldV T 129 (.pointer (some ⟨b, o, none⟩)) 0 = some (.pointer (some ⟨b, o, none⟩)) := by kernel_rfl
@[simp] theorem fld_129_1 (b o : Nat) : fldV T 129 (.pointer (some ⟨b, o, none⟩)) 1 = some (.pointer (some ⟨b, o + 1, none⟩)) := by kernel_rfl
@[simp] theorem ld_129 (b o : Nat) (h : Heap) : ldV T 129 (.pointer (some ⟨b, o, none⟩)) h = (cellsL h ⟨b, o, none⟩ 0 2).map fun l => .agg l.toArray := by kernel_rfl
@[simp] theorem st_129 (b o : Nat) (v : Value) (h : Heap) : stV T 129 (.pointer (some ⟨b, o, none⟩)) v h = (if v.cells.size = 2 then setL h ⟨b, o, none⟩ 0 v.cells.toList else none) := by kernel_rfl
@[simp] theorem fld_130_0 (b o : Nat) : fldV T 130 (.pointer (some ⟨b, o, none⟩)) 0 = some (.pointer (some ⟨b, o, none⟩)) := by kernel_rfl
@[simp] theorem fld_130_1 (b o : Nat) : fldV T 130 (.pointer (some ⟨b, o, none⟩)) 1 = some (.pointer (some ⟨b, o + 1, none⟩)) := by kernel_rfl
@[simp] theorem ld_130 (b o : Nat) (h : Heap) : ldV T 130 (.pointer (some ⟨b, o, none⟩)) h = (cellsL h ⟨b, o, none⟩ 0 2).map fun l => .agg l.toArray := by kernel_rfl
@[simp] theorem st_130 (b o : Nat) (v : Value) (h : Heap) : stV T 130 (.pointer (some ⟨b, o, none⟩)) v h = (if v.cells.size = 2 then setL h ⟨b, o, none⟩ 0 v.cells.toList else none) := by kernel_rfl
@[simp] theorem ld_133 (b o : Nat) (h : Heap) : ldV T 133 (.pointer (some ⟨b, o, none⟩)) h = h.cell b o := by kernel_rfl
@[simp] theorem st_133 (b o : Nat) (v : Value) (h : Heap) : stV T 133 (.pointer (some ⟨b, o, none⟩)) v h = (if v.cells.size = 1 then setL h ⟨b, o, none⟩ 0 v.cells.toList else none) := by kernel_rfl
@[simp] theorem fld_135_0 (b o : Nat) : fldV T 135 (.pointer (some ⟨b, o, none⟩)) 0 = some (.pointer (some ⟨b, o, none⟩)) := by kernel_rfl
@[simp] theorem ld_135 (b o : Nat) (h : Heap) : ldV T 135 (.pointer (some ⟨b, o, none⟩)) h = (cellsL h ⟨b, o, none⟩ 0 1).map fun l => .agg l.toArray := by kernel_rfl
@[simp] theorem st_135 (b o : Nat) (v : Value) (h : Heap) : stV T 135 (.pointer (some ⟨b, o, none⟩)) v h = (if v.cells.size = 1 then setL h ⟨b, o, none⟩ 0 v.cells.toList else none) := by kernel_rfl
@[simp] theorem ld_138 (b o : Nat) (h : Heap) : ldV T 138 (.pointer (some ⟨b, o, none⟩)) h = (cellsL h ⟨b, o, none⟩ 0 2).map fun l => .agg l.toArray := by kernel_rfl
@[simp] theorem st_138 (b o : Nat) (v : Value) (h : Heap) : stV T 138 (.pointer (some ⟨b, o, none⟩)) v h = (if v.cells.size = 2 then setL h ⟨b, o, none⟩ 0 v.cells.toList else none) := by kernel_rfl
@[simp] theorem ld_143 (b o : Nat) (h : Heap) : ldV T 143 (.pointer (some ⟨b, o, none⟩)) h = h.cell b o := by kernel_rfl
@[simp] theorem st_143 (b o : Nat) (v : Value) (h : Heap) : stV T 143 (.pointer (some ⟨b, o, none⟩)) v h = (if v.cells.size = 1 then setL h ⟨b, o, none⟩ 0 v.cells.toList else none) := by kernel_rfl
@[simp] theorem ix_143 (a : Addr) (len cap : Nat) (k : IntKind) (n : Int) : ixV T 143 (.slice (some a) len cap) (.int k n) = (if 0 ≤ n ∧ n < len then some (.pointer (some (a.add (n.toNat * 9)))) else none) := by kernel_rfl
@[simp] theorem len_143 (A : Option Addr) (len cap : Nat) : lenV T 143 (.slice A len cap) = some (.int .i64 len) := by kernel_rfl
@[simp] theorem fld_145_0 (b o : Nat) : fldV T 145 (.pointer (some ⟨b, o, none⟩)) 0 = some (.pointer (some ⟨b, o, none⟩)) := by kernel_rfl
@[simp] theorem fld_145_1 (b o : Nat) : fldV T 145 (.pointer (some ⟨b, o, none⟩)) 1 = some (.pointer (some ⟨b, o + 1, none⟩)) := by kernel_rfl
@[simp] theorem fld_145_2 (b o : Nat) : fldV T 145 (.pointer (some ⟨b, o, none⟩)) 2 = some (.pointer (some ⟨b, o + 2, none⟩)) := by kernel_rfl
@[simp] theorem fld_145_3 (b o : Nat) : fldV T 145 (.pointer (some ⟨b, o, none⟩)) 3 = some (.pointer (some ⟨b, o + 3, none⟩)) := by kernel_rfl
@[simp] theorem fld_145_4 (b o : Nat) : fldV T 145 (.pointer (some ⟨b, o, none⟩)) 4 = some (.pointer (some ⟨b, o + 4, none⟩)) := by kernel_rfl
@[simp] theorem fld_145_5 (b o : Nat) : fldV T 145 (.pointer (some ⟨b, o, none⟩)) 5 = some (.pointer (some ⟨b, o + 5, none⟩)) := by kernel_rfl
@[simp] theorem ld_145 (b o : Nat) (h : Heap) : ldV T 145 (.pointer (some ⟨b, o, none⟩)) h = (cellsL h ⟨b, o, none⟩ 0 6).map fun l => .agg l.toArray := by kernel_rfl
@[simp] theorem st_145 (b o : Nat) (v : Value) (h : Heap) : stV T 145 (.pointer (some ⟨b, o, none⟩)) v h = (if v.cells.size = 6 then setL h ⟨b, o, none⟩ 0 v.cells.toList else none) := by kernel_rfl
@[simp] theorem ld_146 (b o : Nat) (h : Heap) : ldV T 146 (.pointer (some ⟨b, o, none⟩)) h = h.cell b o := by kernel_rfl
@[simp] theorem st_146 (b o : Nat) (v : Value) (h : Heap) : stV T 146 (.pointer (some ⟨b, o, none⟩)) v h = (if v.cells.size = 1 then setL h ⟨b, o, none⟩ 0 v.cells.toList else none) := by kernel_rfl
@[simp] theorem ix_146 (a : Addr) (len cap : Nat) (k : IntKind) (n : Int) : ixV T 146 (.slice (some a) len cap) (.int k n) = (if 0 ≤ n ∧ n < len then some (.pointer (some (a.add (n.toNat * 3)))) else none) := by kernel_rfl
@[simp] theorem len_146 (A : Option Addr) (len cap : Nat) : lenV T 146 (.slice A len cap) = some (.int .i64 len) := by kernel_rfl
@[simp] theorem fld_148_0 (b o : Nat) : fldV T 148 (.pointer (some ⟨b, o, none⟩)) 0 = some (.pointer (some ⟨b, o, none⟩)) := by kernel_rfl
@[simp] theorem fld_148_1 (b o : Nat) : fldV T 148 (.pointer (some ⟨b, o, none⟩)) 1 = some (.pointer (some ⟨b, o + 1, none⟩)) := by kernel_rfl
@[simp] theorem fld_148_2 (b o : Nat) : fldV T 148 (.pointer (some ⟨b, o, none⟩)) 2 = some (.pointer (some ⟨b, o + 2, none⟩)) := by kernel_rfl
@[simp] theorem ld_148 (b o : Nat) (h : Heap) : ldV T 148 (.pointer (some ⟨b, o, none⟩)) h = (cellsL h ⟨b, o, none⟩ 0 3).map fun l => .agg l.toArray := by kernel_rfl
@[simp] theorem st_148 (b o : Nat) (v : Value) (h : Heap) : stV T 148 (.pointer (some ⟨b, o, none⟩)) v h = (if v.cells.size = 3 then setL h ⟨b, o, none⟩ 0 v.cells.toList else none) := by kernel_rfl
@[simp] theorem fld_150_0 (b o : Nat) : fldV T 150 (.pointer (some ⟨b, o, none⟩)) 0 = some (.pointer (some ⟨b, o, none⟩)) := by kernel_rfl
@[simp] theorem fld_150_1 (b o : Nat) : fldV T 150 (.pointer (some ⟨b, o, none⟩)) 1 = some (.pointer (some ⟨b, o + 1, none⟩)) := by kernel_rfl
@[simp] theorem fld_150_2 (b o : Nat) : fldV T 150 (.pointer (some ⟨b, o, none⟩)) 2 = some (.pointer (some ⟨b, o + 2, none⟩)) := by kernel_rfl
@[simp] theorem fld_150_3 (b o : Nat) : fldV T 150 (.pointer (some ⟨b, o, none⟩)) 3 = some (.pointer (some ⟨b, o + 3, none⟩)) := by kernel_rfl
@[simp] theorem fld_150_4 (b o : Nat) : fldV T 150 (.pointer (some ⟨b, o, none⟩)) 4 = some (.pointer (some ⟨b, o + 4, none⟩)) := by kernel_rfl
@[simp] theorem fld_150_5 (b o : Nat) : fldV T 150 (.pointer (some ⟨b, o, none⟩)) 5 = some (.pointer (some ⟨b, o + 5, none⟩)) := by kernel_rfl
@[simp] theorem fld_150_6 (b o : Nat) : fldV T 150 (.pointer (some ⟨b, o, none⟩)) 6 = some (.pointer (some ⟨b, o + 8, none⟩)) := by kernel_rfl
@[simp] theorem ld_150 (b o : Nat) (h : Heap) : ldV T 150 (.pointer (some ⟨b, o, none⟩)) h = (cellsL h ⟨b, o, none⟩ 0 9).map fun l => .agg l.toArray := by kernel_rfl
@[simp] theorem st_150 (b o : Nat) (v : Value) (h : Heap) : stV T 150 (.pointer (some ⟨b, o, none⟩)) v h = (if v.cells.size = 9 then setL h ⟨b, o, none⟩ 0 v.cells.toList else none) := by kernel_rfl
@[simp] theorem ld_156 (b o : Nat) (h : Heap) : ldV T 156 (.pointer (some ⟨b, o, none⟩)) h = h.cell b o := by kernel_rfl
@[simp] theorem st_156 (b o : Nat) (v : Value) (h : Heap) : stV T 156 (.pointer (some ⟨b, o, none⟩)) v h = (if v.cells.size = 1 then setL h ⟨b, o, none⟩ 0 v.cells.toList else none) := by kernel_rfl
@[simp] theorem ld_164 (b o : Nat) (h : Heap) : ldV T 164 (.pointer (some ⟨b, o, none⟩)) h = h.cell b o := by kernel_rfl
@[simp] theorem st_164 (b o : Nat) (v : Value) (h : Heap) : stV T 164 (.pointer (some ⟨b, o, none⟩)) v h = (if v.cells.size = 1 then setL h ⟨b, o, none⟩ 0 v.cells.toList else none) := by kernel_rfl
@[simp] theorem ld_166 (b o : Nat) (h : Heap) : ldV T 166 (.pointer (some ⟨b, o, none⟩)) h = h.cell b o := by kernel_rfl
@[simp] theorem st_166 (b o : Nat) (v : Value) (h : Heap) : stV T 166 (.pointer (some ⟨b, o, none⟩)) v h = (if v.cells.size = 1 then setL h ⟨b, o, none⟩ 0 v.cells.toList else none) := by kernel_rfl
@[simp] theorem ld_173 (b o : Nat) (h : Heap) : ldV T 173 (.pointer (some ⟨b, o, none⟩)) h = h.cell b o := by kernel_rfl
@[simp] theorem st_173 (b o : Nat) (v : Value) (h : Heap) : stV T 173 (.pointer (some ⟨b, o, none⟩)) v h = (if v.cells.size = 1 then setL h ⟨b, o, none⟩ 0 v.cells.toList else none) := by kernel_rfl
@[simp] theorem bld_25_  : buildV T 25 #[] = some (.agg #[(Value.int .i64 0), (Value.slice none 0 0)]) := by kernel_rfl
@[simp] theorem bld_25_0 (x0 : Int) : buildV T 25 #[(0, (Value.int .i64 x0))] = some (.agg #[(Value.int .i64 x0), (Value.slice none 0 0)]) := by kernel_rfl
@[simp] theorem bld_25_0_1 (x0 : Int) (x1a : Option Addr) (x1n : Nat) (x1c : Nat) : buildV T 25 #[(0, (Value.int .i64 x0)), (1, (Value.slice x1a x1n x1c))] = some (.agg #[(Value.int .i64 x0), (Value.slice x1a x1n x1c)]) := by kernel_rfl
@[simp] theorem bld_31_  : buildV T 31 #[] = some (.agg #[(Value.int .i64 0), (Value.int .i64 0)]) := by kernel_rfl
@[simp] theorem bld_31_0 (x0 : Int) : buildV T 31 #[(0, (Value.int .i64 x0))] = some (.agg #[(Value.int .i64 x0), (Value.int .i64 0)]) := by kernel_rfl
@[simp] theorem bld_31_0_1 (x0 : Int) (x1 : Int) : buildV T 31 #[(0, (Value.int .i64 x0)), (1, (Value.int .i64 x1))] = some (.agg #[(Value.int .i64 x0), (Value.int .i64 x1)]) := by kernel_rfl
@[simp] theorem bld_40_0_1 (x0 : Int) (x1 : Int) : buildV T 40 #[(0, (Value.int .i64 x0)), (1, (Value.int .i64 x1))] = some (.agg #[(Value.int .i64 x0), (Value.int .i64 x1), (Value.int .i64 0), (Value.int .i64 0)]) := by kernel_rfl
@[simp] theorem bld_40_0_1_3 (x0 : Int) (x1 : Int) (x3 : Int) : buildV T 40 #[(0, (Value.int .i64 x0)), (1, (Value.int .i64 x1)), (3, (Value.int .i64 x3))] = some (.agg #[(Value.int .i64 x0), (Value.int .i64 x1), (Value.int .i64 0), (Value.int .i64 x3)]) := by kernel_rfl
@[simp] theorem bld_40_2 (x2 : Int) : buildV T 40 #[(2, (Value.int .i64 x2))] = some (.agg #[(Value.int .i64 0), (Value.int .i64 0), (Value.int .i64 x2), (Value.int .i64 0)]) := by kernel_rfl
@[simp] theorem bld_61_0 (x0a : Option Addr) (x0n : Nat) (x0c : Nat) : buildV T 61 #[(0, (Value.slice x0a x0n x0c))] = some (.agg #[(Value.slice x0a x0n x0c), (Value.slice none 0 0)]) := by kernel_rfl
@[simp] theorem bld_69_0 (x0a : Option Addr) (x0n : Nat) (x0c : Nat) : buildV T 69 #[(0, (Value.slice x0a x0n x0c))] = some (.agg #[(Value.slice x0a x0n x0c), (Value.slice none 0 0)]) := by kernel_rfl
@[simp] theorem bld_72_  : buildV T 72 #[] = some (.agg #[(Value.bool false), (Value.int .i64 0)]) := by kernel_rfl
@[simp] theorem bld_72_0 (x0 : Bool) : buildV T 72 #[(0, (Value.bool x0))] = some (.agg #[(Value.bool x0), (Value.int .i64 0)]) := by kernel_rfl
@[simp] theorem bld_72_0_1 (x0 : Bool) (x1 : Int) : buildV T 72 #[(0, (Value.bool x0)), (1, (Value.int .i64 x1))] = some (.agg #[(Value.bool x0), (Value.int .i64 x1)]) := by kernel_rfl
@[simp] theorem bld_79_0_1_2_3 (x0_0 : Value) (x0_1 : Value) (x1 : Int) (x2a : Option Addr) (x2n : Nat) (x2c : Nat) (x3a : Option Addr) (x3n : Nat) (x3c : Nat) : buildV T 79 #[(0, (Value.agg #[x0_0, x0_1])), (1, (Value.int .i64 x1)), (2, (Value.slice x2a x2n x2c)), (3, (Value.slice x3a x3n x3c))] = some (.agg #[x0_0, x0_1, (Value.int .i64 x1), (Value.slice x2a x2n x2c), (Value.slice x3a x3n x3c)]) := by kernel_rfl
@[simp] theorem bld_84_0 (x0 : Option Addr) : buildV T 84 #[(0, (Value.pointer x0))] = some (.agg #[(Value.pointer x0), (Value.slice none 0 0)]) := by kernel_rfl
@[simp] theorem bld_87_0 (x0 : Option Addr) : buildV T 87 #[(0, (Value.pointer x0))] = some (.agg #[(Value.pointer x0), (Value.slice none 0 0), (Value.slice none 0 0)]) := by kernel_rfl
@[simp] theorem bld_101_0_1_2 (x0_0 : Value) (x0_1 : Value) (x1a : Option Addr) (x1n : Nat) (x1c : Nat) (x2a : Option Addr) (x2n : Nat) (x2c : Nat) : buildV T 101 #[(0, (Value.agg #[x0_0, x0_1])), (1, (Value.slice x1a x1n x1c)), (2, (Value.slice x2a x2n x2c))] = some (.agg #[x0_0, x0_1, (Value.slice x1a x1n x1c), (Value.slice x2a x2n x2c), (Value.slice none 0 0), (Value.slice none 0 0), (Value.slice none 0 0), (Value.slice none 0 0)]) := by kernel_rfl
@[simp] theorem bld_118_0_1_2 (x0 : Int) (x1 : Int) (x2 : Int) : buildV T 118 #[(0, (Value.int .i64 x0)), (1, (Value.int .i64 x1)), (2, (Value.int .i64 x2))] = some (.agg #[(Value.int .i64 x0), (Value.int .i64 x1), (Value.int .i64 x2)]) := by kernel_rfl
@[simp] theorem bld_129_0_1 (x0a : Option Addr) (x0n : Nat) (x0c : Nat) (x1 : Int) : buildV T 129 #[(0, (Value.slice x0a x0n x0c)), (1, (Value.int .i64 x1))] = some (.agg #[(Value.slice x0a x0n x0c), (Value.int .i64 x1)]) := by kernel_rfl
@[simp] theorem bld_130_0_1 (x0a : Option Addr) (x0n : Nat) (x0c : Nat) (x1 : Int) : buildV T 130 #[(0, (Value.slice x0a x0n x0c)), (1, (Value.int .i64 x1))] = some (.agg #[(Value.slice x0a x0n x0c), (Value.int .i64 x1)]) := by kernel_rfl
@[simp] theorem bld_135_0 (x0 : Int) : buildV T 135 #[(0, (Value.int .i64 x0))] = some (.agg #[(Value.int .i64 x0)]) := by kernel_rfl
@[simp] theorem bld_145_0_1_2_3_5 (x0 : Int) (x1a : Option Addr) (x1n : Nat) (x1c : Nat) (x2a : Option Addr) (x2n : Nat) (x2c : Nat) (x3a : Option Addr) (x3n : Nat) (x3c : Nat) (x5a : Option Addr) (x5n : Nat) (x5c : Nat) : buildV T 145 #[(0, (Value.int .i64 x0)), (1, (Value.slice x1a x1n x1c)), (2, (Value.slice x2a x2n x2c)), (3, (Value.slice x3a x3n x3c)), (5, (Value.slice x5a x5n x5c))] = some (.agg #[(Value.int .i64 x0), (Value.slice x1a x1n x1c), (Value.slice x2a x2n x2c), (Value.slice x3a x3n x3c), (Value.slice none 0 0), (Value.slice x5a x5n x5c)]) := by kernel_rfl
@[simp] theorem bld_148_0 (x0 : Int) : buildV T 148 #[(0, (Value.int .i64 x0))] = some (.agg #[(Value.int .i64 x0), (Value.int .i64 0), (Value.int .i64 0)]) := by kernel_rfl
@[simp] theorem bld_148_0_1_2 (x0 : Int) (x1 : Int) (x2 : Int) : buildV T 148 #[(0, (Value.int .i64 x0)), (1, (Value.int .i64 x1)), (2, (Value.int .i64 x2))] = some (.agg #[(Value.int .i64 x0), (Value.int .i64 x1), (Value.int .i64 x2)]) := by kernel_rfl
@[simp] theorem bld_150_2_4_5_6 (x2 : Int) (x4 : Int) (x5_0 : Value) (x5_1 : Value) (x5_2 : Value) (x6 : Int) : buildV T 150 #[(2, (Value.int .i64 x2)), (4, (Value.int .i64 x4)), (5, (Value.agg #[x5_0, x5_1, x5_2])), (6, (Value.int .i64 x6))] = some (.agg #[(Value.slice none 0 0), (Value.slice none 0 0), (Value.int .i64 x2), (Value.int .i64 0), (Value.int .i64 x4), x5_0, x5_1, x5_2, (Value.int .i64 x6)]) := by kernel_rfl
@[simp] theorem bld_150_2_6 (x2 : Int) (x6 : Int) : buildV T 150 #[(2, (Value.int .i64 x2)), (6, (Value.int .i64 x6))] = some (.agg #[(Value.slice none 0 0), (Value.slice none 0 0), (Value.int .i64 x2), (Value.int .i64 0), (Value.int .i64 0), (Value.int .i64 0), (Value.int .i64 0), (Value.int .i64 0), (Value.int .i64 x6)]) := by kernel_rfl
@[simp] theorem bs_23_1_0 (x0_0 : Value) (x0_1 : Value) (x0_2 : Value) (x0_3 : Value) : bsV T 23 1 #[(0, (Value.agg #[x0_0, x0_1, x0_2, x0_3]))] = some (fun r => .slice (some ⟨r, 0, none⟩) 1 1, #[x0_0, x0_1, x0_2, x0_3], 40) := by kernel_rfl
@[simp] theorem bs_23_3_0_1_2 (x0_0 : Value) (x0_1 : Value) (x0_2 : Value) (x0_3 : Value) (x1_0 : Value) (x1_1 : Value) (x1_2 : Value) (x1_3 : Value) (x2_0 : Value) (x2_1 : Value) (x2_2 : Value) (x2_3 : Value) : bsV T 23 3 #[(0, (Value.agg #[x0_0, x0_1, x0_2, x0_3])), (1, (Value.agg #[x1_0, x1_1, x1_2, x1_3])), (2, (Value.agg #[x2_0, x2_1, x2_2, x2_3]))] = some (fun r => .slice (some ⟨r, 0, none⟩) 3 3, #[x0_0, x0_1, x0_2, x0_3, x1_0, x1_1, x1_2, x1_3, x2_0, x2_1, x2_2, x2_3], 40) := by kernel_rfl
@[simp] theorem bs_23_4_0_1_2_3 (x0_0 : Value) (x0_1 : Value) (x0_2 : Value) (x0_3 : Value) (x1_0 : Value) (x1_1 : Value) (x1_2 : Value) (x1_3 : Value) (x2_0 : Value) (x2_1 : Value) (x2_2 : Value) (x2_3 : Value) (x3_0 : Value) (x3_1 : Value) (x3_2 : Value) (x3_3 : Value) : bsV T 23 4 #[(0, (Value.agg #[x0_0, x0_1, x0_2, x0_3])), (1, (Value.agg #[x1_0, x1_1, x1_2, x1_3])), (2, (Value.agg #[x2_0, x2_1, x2_2, x2_3])), (3, (Value.agg #[x3_0, x3_1, x3_2, x3_3]))] = some (fun r => .slice (some ⟨r, 0, none⟩) 4 4, #[x0_0, x0_1, x0_2, x0_3, x1_0, x1_1, x1_2, x1_3, x2_0, x2_1, x2_2, x2_3, x3_0, x3_1, x3_2, x3_3], 40) := by kernel_rfl
@[simp] theorem bs_23_6_0_1_2_3_4_5 (x0_0 : Value) (x0_1 : Value) (x0_2 : Value) (x0_3 : Value) (x1_0 : Value) (x1_1 : Value) (x1_2 : Value) (x1_3 : Value) (x2_0 : Value) (x2_1 : Value) (x2_2 : Value) (x2_3 : Value) (x3_0 : Value) (x3_1 : Value) (x3_2 : Value) (x3_3 : Value) (x4_0 : Value) (x4_1 : Value) (x4_2 : Value) (x4_3 : Value) (x5_0 : Value) (x5_1 : Value) (x5_2 : Value) (x5_3 : Value) : bsV T 23 6 #[(0, (Value.agg #[x0_0, x0_1, x0_2, x0_3])), (1, (Value.agg #[x1_0, x1_1, x1_2, x1_3])), (2, (Value.agg #[x2_0, x2_1, x2_2, x2_3])), (3, (Value.agg #[x3_0, x3_1, x3_2, x3_3])), (4, (Value.agg #[x4_0, x4_1, x4_2, x4_3])), (5, (Value.agg #[x5_0, x5_1, x5_2, x5_3]))] = some (fun r => .slice (some ⟨r, 0, none⟩) 6 6, #[x0_0, x0_1, x0_2, x0_3, x1_0, x1_1, x1_2, x1_3, x2_0, x2_1, x2_2, x2_3, x3_0, x3_1, x3_2, x3_3, x4_0, x4_1, x4_2, x4_3, x5_0, x5_1, x5_2, x5_3], 40) := by kernel_rfl
@[simp] theorem bs_26_0_  : bsV T 26 0 #[] = some (fun r => .slice (some ⟨r, 0, none⟩) 0 0, #[], 3) := by kernel_rfl
@[simp] theorem bs_26_1_0 (x0 : Int) : bsV T 26 1 #[(0, (Value.int .i64 x0))] = some (fun r => .slice (some ⟨r, 0, none⟩) 1 1, #[(Value.int .i64 x0)], 3) := by kernel_rfl
@[simp] theorem bs_26_2_0_1 (x0 : Int) (x1 : Int) : bsV T 26 2 #[(0, (Value.int .i64 x0)), (1, (Value.int .i64 x1))] = some (fun r => .slice (some ⟨r, 0, none⟩) 2 2, #[(Value.int .i64 x0), (Value.int .i64 x1)], 3) := by kernel_rfl
@[simp] theorem bs_26_3_0_1_2 (x0 : Int) (x1 : Int) (x2 : Int) : bsV T 26 3 #[(0, (Value.int .i64 x0)), (1, (Value.int .i64 x1)), (2, (Value.int .i64 x2))] = some (fun r => .slice (some ⟨r, 0, none⟩) 3 3, #[(Value.int .i64 x0), (Value.int .i64 x1), (Value.int .i64 x2)], 3) := by kernel_rfl
@[simp] theorem bs_26_4_0_1_2_3 (x0 : Int) (x1 : Int) (x2 : Int) (x3 : Int) : bsV T 26 4 #[(0, (Value.int .i64 x0)), (1, (Value.int .i64 x1)), (2, (Value.int .i64 x2)), (3, (Value.int .i64 x3))] = some (fun r => .slice (some ⟨r, 0, none⟩) 4 4, #[(Value.int .i64 x0), (Value.int .i64 x1), (Value.int .i64 x2), (Value.int .i64 x3)], 3) := by kernel_rfl
@[simp] theorem bs_58_2_0_1 (x0 : Int) (x1 : Int) : bsV T 58 2 #[(0, (Value.int .i64 x0)), (1, (Value.int .i64 x1))] = some (fun r => .slice (some ⟨r, 0, none⟩) 2 2, #[(Value.int .i64 x0), (Value.int .i64 x1)], 2) := by kernel_rfl
@[simp] theorem bs_59_1_0 (x0_0 : Value) (x0_1 : Value) : bsV T 59 1 #[(0, (Value.agg #[x0_0, x0_1]))] = some (fun r => .slice (some ⟨r, 0, none⟩) 1 1, #[x0_0, x0_1], 129) := by kernel_rfl
@[simp] theorem bs_67_1_0 (x0_0 : Value) (x0_1 : Value) : bsV T 67 1 #[(0, (Value.agg #[x0_0, x0_1]))] = some (fun r => .slice (some ⟨r, 0, none⟩) 1 1, #[x0_0, x0_1], 130) := by kernel_rfl
@[simp] theorem bs_74_0_  : bsV T 74 0 #[] = some (fun r => .slice (some ⟨r, 0, none⟩) 0 0, #[], 4) := by kernel_rfl
@[simp] theorem bs_115_2_0_1 (x0a : Option Addr) (x0n : Nat) (x0c : Nat) (x1a : Option Addr) (x1n : Nat) (x1c : Nat) : bsV T 115 2 #[(0, (Value.slice x0a x0n x0c)), (1, (Value.slice x1a x1n x1c))] = some (fun r => .slice (some ⟨r, 0, none⟩) 2 2, #[(Value.slice x0a x0n x0c), (Value.slice x1a x1n x1c)], 58) := by kernel_rfl
@[simp] theorem bs_116_1_0 (x0_0 : Value) (x0_1 : Value) (x0_2 : Value) : bsV T 116 1 #[(0, (Value.agg #[x0_0, x0_1, x0_2]))] = some (fun r => .slice (some ⟨r, 0, none⟩) 1 1, #[x0_0, x0_1, x0_2], 118) := by kernel_rfl
@[simp] theorem bs_146_1_0 (x0_0 : Value) (x0_1 : Value) (x0_2 : Value) : bsV T 146 1 #[(0, (Value.agg #[x0_0, x0_1, x0_2]))] = some (fun r => .slice (some ⟨r, 0, none⟩) 1 1, #[x0_0, x0_1, x0_2], 148) := by kernel_rfl
@[simp] theorem eqls_31 (a0 b0 a1 b1 : Int) : binV T .eql 31 (.agg #[.int .i64 a0, .int .i64 a1]) (.agg #[.int .i64 b0, .int .i64 b1]) = some (.bool (decide (a0 = b0 ∧ a1 = b1))) := (show _ = some (Value.bool (a0 == b0 && (a1 == b1 && true))) by kernel_rfl).trans (by congr 2; rw [Bool.eq_iff_iff]; simp)
@[simp] theorem neqs_31 (a0 b0 a1 b1 : Int) : binV T .neq 31 (.agg #[.int .i64 a0, .int .i64 a1]) (.agg #[.int .i64 b0, .int .i64 b1]) = some (.bool (decide (¬ (a0 = b0 ∧ a1 = b1)))) := (show _ = some (Value.bool (!(a0 == b0 && (a1 == b1 && true)))) by kernel_rfl).trans (by congr 2; rw [Bool.eq_iff_iff]; simp)
@[simp] theorem eqls_40 (a0 b0 a1 b1 a2 b2 a3 b3 : Int) : binV T .eql 40 (.agg #[.int .i64 a0, .int .i64 a1, .int .i64 a2, .int .i64 a3]) (.agg #[.int .i64 b0, .int .i64 b1, .int .i64 b2, .int .i64 b3]) = some (.bool (decide (a0 = b0 ∧ a1 = b1 ∧ a2 = b2 ∧ a3 = b3))) := (show _ = some (Value.bool (a0 == b0 && (a1 == b1 && (a2 == b2 && (a3 == b3 && true))))) by kernel_rfl).trans (by congr 2; rw [Bool.eq_iff_iff]; simp)
@[simp] theorem neqs_40 (a0 b0 a1 b1 a2 b2 a3 b3 : Int) : binV T .neq 40 (.agg #[.int .i64 a0, .int .i64 a1, .int .i64 a2, .int .i64 a3]) (.agg #[.int .i64 b0, .int .i64 b1, .int .i64 b2, .int .i64 b3]) = some (.bool (decide (¬ (a0 = b0 ∧ a1 = b1 ∧ a2 = b2 ∧ a3 = b3)))) := (show _ = some (Value.bool (!(a0 == b0 && (a1 == b1 && (a2 == b2 && (a3 == b3 && true)))))) by kernel_rfl).trans (by congr 2; rw [Bool.eq_iff_iff]; simp)
@[simp] theorem eqls_118 (a0 b0 a1 b1 a2 b2 : Int) : binV T .eql 118 (.agg #[.int .i64 a0, .int .i64 a1, .int .i64 a2]) (.agg #[.int .i64 b0, .int .i64 b1, .int .i64 b2]) = some (.bool (decide (a0 = b0 ∧ a1 = b1 ∧ a2 = b2))) := (show _ = some (Value.bool (a0 == b0 && (a1 == b1 && (a2 == b2 && true)))) by kernel_rfl).trans (by congr 2; rw [Bool.eq_iff_iff]; simp)
@[simp] theorem neqs_118 (a0 b0 a1 b1 a2 b2 : Int) : binV T .neq 118 (.agg #[.int .i64 a0, .int .i64 a1, .int .i64 a2]) (.agg #[.int .i64 b0, .int .i64 b1, .int .i64 b2]) = some (.bool (decide (¬ (a0 = b0 ∧ a1 = b1 ∧ a2 = b2)))) := (show _ = some (Value.bool (!(a0 == b0 && (a1 == b1 && (a2 == b2 && true))))) by kernel_rfl).trans (by congr 2; rw [Bool.eq_iff_iff]; simp)
@[simp] theorem eqls_135 (a0 b0 : Int) : binV T .eql 135 (.agg #[.int .i64 a0]) (.agg #[.int .i64 b0]) = some (.bool (decide (a0 = b0))) := (show _ = some (Value.bool (a0 == b0 && true)) by kernel_rfl).trans (by congr 2; rw [Bool.eq_iff_iff]; simp)
@[simp] theorem neqs_135 (a0 b0 : Int) : binV T .neq 135 (.agg #[.int .i64 a0]) (.agg #[.int .i64 b0]) = some (.bool (decide (¬ (a0 = b0)))) := (show _ = some (Value.bool (!(a0 == b0 && true))) by kernel_rfl).trans (by congr 2; rw [Bool.eq_iff_iff]; simp)
@[simp] theorem eqls_148 (a0 b0 a1 b1 a2 b2 : Int) : binV T .eql 148 (.agg #[.int .i64 a0, .int .i64 a1, .int .i64 a2]) (.agg #[.int .i64 b0, .int .i64 b1, .int .i64 b2]) = some (.bool (decide (a0 = b0 ∧ a1 = b1 ∧ a2 = b2))) := (show _ = some (Value.bool (a0 == b0 && (a1 == b1 && (a2 == b2 && true)))) by kernel_rfl).trans (by congr 2; rw [Bool.eq_iff_iff]; simp)
@[simp] theorem neqs_148 (a0 b0 a1 b1 a2 b2 : Int) : binV T .neq 148 (.agg #[.int .i64 a0, .int .i64 a1, .int .i64 a2]) (.agg #[.int .i64 b0, .int .i64 b1, .int .i64 b2]) = some (.bool (decide (¬ (a0 = b0 ∧ a1 = b1 ∧ a2 = b2)))) := (show _ = some (Value.bool (!(a0 == b0 && (a1 == b1 && (a2 == b2 && true))))) by kernel_rfl).trans (by congr 2; rw [Bool.eq_iff_iff]; simp)
@[simp] theorem mki_2 (x : Value) : mkiV T 2 x = some (.iface 2 x) := by kernel_rfl
@[simp] theorem mki_3 (x : Value) : mkiV T 3 x = some (.iface 3 x) := by kernel_rfl
@[simp] theorem eqlb_4 (a b : Bool) : binV T .eql 4 (.bool a) (.bool b) = some (.bool (decide (a = b))) := by cases a <;> cases b <;> kernel_rfl
@[simp] theorem neqb_4 (a b : Bool) : binV T .neq 4 (.bool a) (.bool b) = some (.bool (decide (a ≠ b))) := by cases a <;> cases b <;> kernel_rfl
@[simp] theorem mki_4 (x : Value) : mkiV T 4 x = some (.iface 4 x) := by kernel_rfl
@[simp] theorem mki_5 (x : Value) : mkiV T 5 x = some (.iface 5 x) := by kernel_rfl
@[simp] theorem mki_9 (x : Value) : mkiV T 9 x = some (.iface 9 x) := by kernel_rfl
@[simp] theorem mki_23 (x : Value) : mkiV T 23 x = some (.iface 23 x) := by kernel_rfl
@[simp] theorem el_23 : elemT T 23 = some (40, ⟨.struct #[⟨ "From", 3, 0, false, "", "", 0⟩, ⟨ "To", 3, 1, false, "", "", 8⟩, ⟨ "Cap", 2, 2, false, "", "", 16⟩, ⟨ "Cost", 2, 3, false, "", "", 24⟩], 4, 32, #[(Value.int .i64 0), (Value.int .i64 0), (Value.int .i64 0), (Value.int .i64 0)]⟩) := by kernel_rfl
@[simp] theorem mki_25 (x : Value) : mkiV T 25 x = some (.iface 25 x) := by kernel_rfl
@[simp] theorem slhi_26 (b o len cap : Nat) (k : IntKind) (m : Int) : slV T 26 (.slice (some ⟨b, o, none⟩) len cap) none (some (.int k m)) none = if 0 ≤ m ∧ m ≤ cap then some (.slice (some ⟨b, o, none⟩) m.toNat cap) else none := sl_hi (T := T) (t := 26) (e := 3) (w1 := 1) (w2 := 24) (zz := #[(Value.slice none 0 0)]) (te := ⟨.int .i64, 1, 8, #[(Value.int .i64 0)]⟩) (by kernel_rfl) (by kernel_rfl) b o len cap k m
theorem ms_26 (n : Nat) (hn : 8 * n ≤ 281474976710656) (hn' : n ≤ 9223372036854775807) : msV T 26 (.int .i64 n) (.int .i64 n) = some (fun r => .slice (some ⟨r, 0, none⟩) n n, zrow #[(Value.int .i64 0)] n, 3) := (ms_word (T := T) (t := 26) (e := 3) (d := .int .i64) (w1 := 1) (w2 := 24) (zz := #[(Value.slice none 0 0)]) (by kernel_rfl) (by kernel_rfl) n hn hn').trans (by rw [Nat.mul_one])
@[simp] theorem mki_26 (x : Value) : mkiV T 26 x = some (.iface 26 x) := by kernel_rfl
@[simp] theorem el_26 : elemT T 26 = some (3, ⟨.int .i64, 1, 8, #[(Value.int .i64 0)]⟩) := by kernel_rfl
@[simp] theorem mki_27 (x : Value) : mkiV T 27 x = some (.iface 27 x) := by kernel_rfl
@[simp] theorem mki_31 (x : Value) : mkiV T 31 x = some (.iface 31 x) := by kernel_rfl
@[simp] theorem mki_40 (x : Value) : mkiV T 40 x = some (.iface 40 x) := by kernel_rfl
@[simp] theorem mki_53 (x : Value) : mkiV T 53 x = some (.iface 53 x) := by kernel_rfl
@[simp] theorem slhi_58 (b o len cap : Nat) (k : IntKind) (m : Int) : slV T 58 (.slice (some ⟨b, o, none⟩) len cap) none (some (.int k m)) none = if 0 ≤ m ∧ m ≤ cap then some (.slice (some ⟨b, o, none⟩) m.toNat cap) else none := sl_hi (T := T) (t := 58) (e := 2) (w1 := 1) (w2 := 24) (zz := #[(Value.slice none 0 0)]) (te := ⟨.int .i64, 1, 8, #[(Value.int .i64 0)]⟩) (by kernel_rfl) (by kernel_rfl) b o len cap k m
theorem ms_58 (n : Nat) (hn : 8 * n ≤ 281474976710656) (hn' : n ≤ 9223372036854775807) : msV T 58 (.int .i64 n) (.int .i64 n) = some (fun r => .slice (some ⟨r, 0, none⟩) n n, zrow #[(Value.int .i64 0)] n, 2) := (ms_word (T := T) (t := 58) (e := 2) (d := .int .i64) (w1 := 1) (w2 := 24) (zz := #[(Value.slice none 0 0)]) (by kernel_rfl) (by kernel_rfl) n hn hn').trans (by rw [Nat.mul_one])
@[simp] theorem mki_58 (x : Value) : mkiV T 58 x = some (.iface 58 x) := by kernel_rfl
@[simp] theorem el_58 : elemT T 58 = some (2, ⟨.int .i64, 1, 8, #[(Value.int .i64 0)]⟩) := by kernel_rfl
@[simp] theorem mki_59 (x : Value) : mkiV T 59 x = some (.iface 59 x) := by kernel_rfl
@[simp] theorem el_59 : elemT T 59 = some (129, ⟨.struct #[⟨ "Nodes", 26, 0, false, "", "", 0⟩, ⟨ "Z", 2, 1, false, "", "", 24⟩], 2, 32, #[(Value.slice none 0 0), (Value.int .i64 0)]⟩) := by kernel_rfl
@[simp] theorem mki_61 (x : Value) : mkiV T 61 x = some (.iface 61 x) := by kernel_rfl
@[simp] theorem mki_67 (x : Value) : mkiV T 67 x = some (.iface 67 x) := by kernel_rfl
@[simp] theorem el_67 : elemT T 67 = some (130, ⟨.struct #[⟨ "Nodes", 26, 0, false, "", "", 0⟩, ⟨ "Z", 2, 1, false, "", "", 24⟩], 2, 32, #[(Value.slice none 0 0), (Value.int .i64 0)]⟩) := by kernel_rfl
@[simp] theorem mki_69 (x : Value) : mkiV T 69 x = some (.iface 69 x) := by kernel_rfl
@[simp] theorem mki_72 (x : Value) : mkiV T 72 x = some (.iface 72 x) := by kernel_rfl
@[simp] theorem slhi_74 (b o len cap : Nat) (k : IntKind) (m : Int) : slV T 74 (.slice (some ⟨b, o, none⟩) len cap) none (some (.int k m)) none = if 0 ≤ m ∧ m ≤ cap then some (.slice (some ⟨b, o, none⟩) m.toNat cap) else none := sl_hi (T := T) (t := 74) (e := 4) (w1 := 1) (w2 := 24) (zz := #[(Value.slice none 0 0)]) (te := ⟨.bool, 1, 1, #[(Value.bool false)]⟩) (by kernel_rfl) (by kernel_rfl) b o len cap k m
theorem ms_74 (n : Nat) (hn : 1 * n ≤ 281474976710656) (hn' : n ≤ 9223372036854775807) : msV T 74 (.int .i64 n) (.int .i64 n) = some (fun r => .slice (some ⟨r, 0, none⟩) n n, zrow #[(Value.bool false)] n, 4) := (ms_word (T := T) (t := 74) (e := 4) (d := .bool) (w1 := 1) (w2 := 24) (zz := #[(Value.slice none 0 0)]) (by kernel_rfl) (by kernel_rfl) n hn hn').trans (by rw [Nat.mul_one])
@[simp] theorem mki_74 (x : Value) : mkiV T 74 x = some (.iface 74 x) := by kernel_rfl
@[simp] theorem el_74 : elemT T 74 = some (4, ⟨.bool, 1, 1, #[(Value.bool false)]⟩) := by kernel_rfl
@[simp] theorem mki_76 (x : Value) : mkiV T 76 x = some (.iface 76 x) := by kernel_rfl
@[simp] theorem slhi_77 (b o len cap : Nat) (k : IntKind) (m : Int) : slV T 77 (.slice (some ⟨b, o, none⟩) len cap) none (some (.int k m)) none = if 0 ≤ m ∧ m ≤ cap then some (.slice (some ⟨b, o, none⟩) m.toNat cap) else none := sl_hi (T := T) (t := 77) (e := 26) (w1 := 1) (w2 := 24) (zz := #[(Value.slice none 0 0)]) (te := ⟨.slice 3, 1, 24, #[(Value.slice none 0 0)]⟩) (by kernel_rfl) (by kernel_rfl) b o len cap k m
theorem ms_77 (n : Nat) (hn : 24 * n ≤ 281474976710656) (hn' : n ≤ 9223372036854775807) : msV T 77 (.int .i64 n) (.int .i64 n) = some (fun r => .slice (some ⟨r, 0, none⟩) n n, zrow #[(Value.slice none 0 0)] n, 26) := (ms_word (T := T) (t := 77) (e := 26) (d := .slice 3) (w1 := 1) (w2 := 24) (zz := #[(Value.slice none 0 0)]) (by kernel_rfl) (by kernel_rfl) n hn hn').trans (by rw [Nat.mul_one])
@[simp] theorem mki_77 (x : Value) : mkiV T 77 x = some (.iface 77 x) := by kernel_rfl
@[simp] theorem el_77 : elemT T 77 = some (26, ⟨.slice 3, 1, 24, #[(Value.slice none 0 0)]⟩) := by kernel_rfl
@[simp] theorem mki_79 (x : Value) : mkiV T 79 x = some (.iface 79 x) := by kernel_rfl
@[simp] theorem mki_82 (x : Value) : mkiV T 82 x = some (.iface 82 x) := by kernel_rfl
@[simp] theorem mki_84 (x : Value) : mkiV T 84 x = some (.iface 84 x) := by kernel_rfl
@[simp] theorem mki_85 (x : Value) : mkiV T 85 x = some (.iface 85 x) := by kernel_rfl
@[simp] theorem mki_87 (x : Value) : mkiV T 87 x = some (.iface 87 x) := by kernel_rfl
@[simp] theorem mki_98 (x : Value) : mkiV T 98 x = some (.iface 98 x) := by kernel_rfl
@[simp] theorem mki_101 (x : Value) : mkiV T 101 x = some (.iface 101 x) := by kernel_rfl
@[simp] theorem slhi_115 (b o len cap : Nat) (k : IntKind) (m : Int) : slV T 115 (.slice (some ⟨b, o, none⟩) len cap) none (some (.int k m)) none = if 0 ≤ m ∧ m ≤ cap then some (.slice (some ⟨b, o, none⟩) m.toNat cap) else none := sl_hi (T := T) (t := 115) (e := 58) (w1 := 1) (w2 := 24) (zz := #[(Value.slice none 0 0)]) (te := ⟨.slice 2, 1, 24, #[(Value.slice none 0 0)]⟩) (by kernel_rfl) (by kernel_rfl) b o len cap k m
theorem ms_115 (n : Nat) (hn : 24 * n ≤ 281474976710656) (hn' : n ≤ 9223372036854775807) : msV T 115 (.int .i64 n) (.int .i64 n) = some (fun r => .slice (some ⟨r, 0, none⟩) n n, zrow #[(Value.slice none 0 0)] n, 58) := (ms_word (T := T) (t := 115) (e := 58) (d := .slice 2) (w1 := 1) (w2 := 24) (zz := #[(Value.slice none 0 0)]) (by kernel_rfl) (by kernel_rfl) n hn hn').trans (by rw [Nat.mul_one])
@[simp] theorem mki_115 (x : Value) : mkiV T 115 x = some (.iface 115 x) := by kernel_rfl
@[simp] theorem el_115 : elemT T 115 = some (58, ⟨.slice 2, 1, 24, #[(Value.slice none 0 0)]⟩) := by kernel_rfl
@[simp] theorem mki_116 (x : Value) : mkiV T 116 x = some (.iface 116 x) := by kernel_rfl
@[simp] theorem el_116 : elemT T 116 = some (118, ⟨.struct #[⟨ "u", 3, 0, false, "", "compass/perfect", 0⟩, ⟨ "v", 3, 1, false, "", "compass/perfect", 8⟩, ⟨ "twice", 2, 2, false, "", "compass/perfect", 16⟩], 3, 24, #[(Value.int .i64 0), (Value.int .i64 0), (Value.int .i64 0)]⟩) := by kernel_rfl
@[simp] theorem mki_118 (x : Value) : mkiV T 118 x = some (.iface 118 x) := by kernel_rfl
@[simp] theorem mki_129 (x : Value) : mkiV T 129 x = some (.iface 129 x) := by kernel_rfl
@[simp] theorem mki_130 (x : Value) : mkiV T 130 x = some (.iface 130 x) := by kernel_rfl
@[simp] theorem mki_133 (x : Value) : mkiV T 133 x = some (.iface 133 x) := by kernel_rfl
@[simp] theorem mki_135 (x : Value) : mkiV T 135 x = some (.iface 135 x) := by kernel_rfl
@[simp] theorem mki_138 (x : Value) : mkiV T 138 x = some (.iface 138 x) := by kernel_rfl
@[simp] theorem mki_143 (x : Value) : mkiV T 143 x = some (.iface 143 x) := by kernel_rfl
@[simp] theorem el_143 : elemT T 143 = some (150, ⟨.struct #[⟨ "kids", 26, 0, false, "", "compass/perfect", 0⟩, ⟨ "links", 146, 1, false, "", "compass/perfect", 24⟩, ⟨ "base", 3, 2, false, "", "compass/perfect", 48⟩, ⟨ "z", 2, 3, false, "", "compass/perfect", 56⟩, ⟨ "label", 3, 4, false, "", "compass/perfect", 64⟩, ⟨ "via", 148, 5, false, "", "compass/perfect", 72⟩, ⟨ "up", 3, 8, false, "", "compass/perfect", 96⟩], 9, 104, #[(Value.slice none 0 0), (Value.slice none 0 0), (Value.int .i64 0), (Value.int .i64 0), (Value.int .i64 0), (Value.int .i64 0), (Value.int .i64 0), (Value.int .i64 0), (Value.int .i64 0)]⟩) := by kernel_rfl
@[simp] theorem mki_145 (x : Value) : mkiV T 145 x = some (.iface 145 x) := by kernel_rfl
@[simp] theorem mki_146 (x : Value) : mkiV T 146 x = some (.iface 146 x) := by kernel_rfl
@[simp] theorem el_146 : elemT T 146 = some (148, ⟨.struct #[⟨ "edge", 3, 0, false, "", "compass/perfect", 0⟩, ⟨ "in", 3, 1, false, "", "compass/perfect", 8⟩, ⟨ "out", 3, 2, false, "", "compass/perfect", 16⟩], 3, 24, #[(Value.int .i64 0), (Value.int .i64 0), (Value.int .i64 0)]⟩) := by kernel_rfl
@[simp] theorem mki_148 (x : Value) : mkiV T 148 x = some (.iface 148 x) := by kernel_rfl
@[simp] theorem mki_150 (x : Value) : mkiV T 150 x = some (.iface 150 x) := by kernel_rfl
@[simp] theorem mki_156 (x : Value) : mkiV T 156 x = some (.iface 156 x) := by kernel_rfl
@[simp] theorem mki_164 (x : Value) : mkiV T 164 x = some (.iface 164 x) := by kernel_rfl
@[simp] theorem mki_166 (x : Value) : mkiV T 166 x = some (.iface 166 x) := by kernel_rfl
@[simp] theorem mki_173 (x : Value) : mkiV T 173 x = some (.iface 173 x) := by kernel_rfl

end Go.Proofs.Ythchjolcjicpgaa
