/-
 A part of the proof of: The row of BulletinViews and its tied card,out of the lifted form.
-/
import Derived.Test.YtfdbelnklcjogaaGreatDoorRows
import Derived.KernelRfl
set_option linter.unusedSectionVars false
set_option linter.unusedVariables false
set_option linter.unusedSimpArgs false
set_option maxRecDepth 100000
namespace Go.Air
noncomputable abbrev P9:Program:=Go.Proofs.Tryz.prog
theorem zfb:P9.types.size=620:=by kernel_rfl
theorem fine0:(List.range' 0 200).all (rowFine P9)=true:=by kernel_rfl
theorem fine1:(List.range' 200 200).all (rowFine P9)=true:=by kernel_rfl
theorem fine2:(List.range' 400 200).all (rowFine P9)=true:=by kernel_rfl
theorem fine3:(List.range' 600 20).all (rowFine P9)=true:=by kernel_rfl
theorem fineG:P9.globals.all (fun g=>Nat.blt g.type 620)=true:=by kernel_rfl
theorem fineF:P9.funcs.all (fun f=>f.params.all fun t=>Nat.blt t 620)=true:=by kernel_rfl
theorem lt_blt (t:Nat):decide (t<P9.types.size)=Nat.blt t 620:=by
 rw[zfb,Bool.eq_iff_iff,decide_eq_true_iff,Nat.blt_eq]
theorem laid:laidOutB P9=true:=by
 unfold laidOutB
 rw[zfb,Bool.and_eq_true,Bool.and_eq_true]
 refine⟨⟨?_,?_⟩,?_⟩
 ·rw[List.all_eq_true]
  intro t ht
  have ht:=List.mem_range.1 ht
  by_cases h0:t<200
  ·exact List.all_eq_true.1 fine0 t (List.mem_range'_1.2 ⟨by omega,by omega⟩)
  by_cases h1:t<400
  ·exact List.all_eq_true.1 fine1 t (List.mem_range'_1.2 ⟨by omega,by omega⟩)
  by_cases h2:t<600
  ·exact List.all_eq_true.1 fine2 t (List.mem_range'_1.2 ⟨by omega,by omega⟩)
  ·exact List.all_eq_true.1 fine3 t (List.mem_range'_1.2 ⟨by omega,by omega⟩)
 ·have:(fun g:Global=>decide (g.type<620))=fun g=>Nat.blt g.type 620:=by
   funext g
   rw[← lt_blt,zfb]
  rw[this];exact fineG
 ·have:(fun f:Func=>f.params.all fun t=>decide (t<620))=fun f=>f.params.all fun t=>Nat.blt t 620:=by
   funext f
   congr 1
   funext t
   rw[← lt_blt,zfb]
  rw[this];exact fineF
end Go.Air
