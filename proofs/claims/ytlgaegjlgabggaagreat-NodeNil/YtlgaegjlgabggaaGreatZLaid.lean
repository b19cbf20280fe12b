/- The types' table stands as it must, row by row, by the kernel. -/
import Derived.Test.YtlgaegjlgabggaaGreatProg
import Derived.KernelRfl
import GoSem.ClaimDataLaid
set_option maxRecDepth 100000
namespace Go.Proofs.YtlgaegjlgabggaaGreat.nodeNil
theorem tsize : Tryz.prog.types.size = 711 := by kernel_rfl
theorem fine0 : ((List.range' 0 64 1).all (rowFine Tryz.prog)) = true := by kernel_rfl
theorem fine64 : ((List.range' 64 64 1).all (rowFine Tryz.prog)) = true := by kernel_rfl
theorem fine128 : ((List.range' 128 64 1).all (rowFine Tryz.prog)) = true := by kernel_rfl
theorem fine192 : ((List.range' 192 64 1).all (rowFine Tryz.prog)) = true := by kernel_rfl
theorem fine256 : ((List.range' 256 64 1).all (rowFine Tryz.prog)) = true := by kernel_rfl
theorem fine320 : ((List.range' 320 64 1).all (rowFine Tryz.prog)) = true := by kernel_rfl
theorem fine384 : ((List.range' 384 64 1).all (rowFine Tryz.prog)) = true := by kernel_rfl
theorem fine448 : ((List.range' 448 64 1).all (rowFine Tryz.prog)) = true := by kernel_rfl
theorem fine512 : ((List.range' 512 64 1).all (rowFine Tryz.prog)) = true := by kernel_rfl
theorem fine576 : ((List.range' 576 64 1).all (rowFine Tryz.prog)) = true := by kernel_rfl
theorem fine640 : ((List.range' 640 64 1).all (rowFine Tryz.prog)) = true := by kernel_rfl
theorem fine704 : ((List.range' 704 7 1).all (rowFine Tryz.prog)) = true := by kernel_rfl
theorem fineG : Tryz.prog.globals.all (fun g => decide (g.type < Tryz.prog.types.size)) = true := by kernel_rfl
theorem fineF : Tryz.prog.funcs.all (fun f => f.params.all fun t => decide (t < Tryz.prog.types.size)) = true := by kernel_rfl
theorem laidOut : laidOutB Tryz.prog = true := by
  unfold laidOutB
  rw [fineG, fineF, Bool.and_true, Bool.and_true, List.all_eq_true, tsize]
  intro t ht
  have ht := List.mem_range.1 ht
  rcases Nat.lt_or_ge t 64 with h | h
  · exact List.all_eq_true.1 fine0 t (List.mem_range'_1.2 ⟨by omega, by omega⟩)
  rcases Nat.lt_or_ge t 128 with h | h
  · exact List.all_eq_true.1 fine64 t (List.mem_range'_1.2 ⟨by omega, by omega⟩)
  rcases Nat.lt_or_ge t 192 with h | h
  · exact List.all_eq_true.1 fine128 t (List.mem_range'_1.2 ⟨by omega, by omega⟩)
  rcases Nat.lt_or_ge t 256 with h | h
  · exact List.all_eq_true.1 fine192 t (List.mem_range'_1.2 ⟨by omega, by omega⟩)
  rcases Nat.lt_or_ge t 320 with h | h
  · exact List.all_eq_true.1 fine256 t (List.mem_range'_1.2 ⟨by omega, by omega⟩)
  rcases Nat.lt_or_ge t 384 with h | h
  · exact List.all_eq_true.1 fine320 t (List.mem_range'_1.2 ⟨by omega, by omega⟩)
  rcases Nat.lt_or_ge t 448 with h | h
  · exact List.all_eq_true.1 fine384 t (List.mem_range'_1.2 ⟨by omega, by omega⟩)
  rcases Nat.lt_or_ge t 512 with h | h
  · exact List.all_eq_true.1 fine448 t (List.mem_range'_1.2 ⟨by omega, by omega⟩)
  rcases Nat.lt_or_ge t 576 with h | h
  · exact List.all_eq_true.1 fine512 t (List.mem_range'_1.2 ⟨by omega, by omega⟩)
  rcases Nat.lt_or_ge t 640 with h | h
  · exact List.all_eq_true.1 fine576 t (List.mem_range'_1.2 ⟨by omega, by omega⟩)
  rcases Nat.lt_or_ge t 704 with h | h
  · exact List.all_eq_true.1 fine640 t (List.mem_range'_1.2 ⟨by omega, by omega⟩)
  exact List.all_eq_true.1 fine704 t (List.mem_range'_1.2 ⟨by omega, by omega⟩)
end Go.Proofs.YtlgaegjlgabggaaGreat.nodeNil
