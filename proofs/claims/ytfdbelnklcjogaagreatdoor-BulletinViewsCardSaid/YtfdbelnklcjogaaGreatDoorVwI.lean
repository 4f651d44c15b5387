/-
 A part of the proof of: The row of BulletinViews and its tied card,out of the lifted form.
-/
import Derived.Test.YtfdbelnklcjogaaGreatDoorProg
import Derived.KernelRfl
import Derived.Test.YtfdbelnklcjogaaGreatDoorVwB
set_option linter.unusedSectionVars false
set_option linter.unusedVariables false
set_option linter.unusedSimpArgs false
set_option maxRecDepth 1000000
namespace Go.Air.Try
noncomputable def okAt (k:Nat):Bool:=match tree.get k with
 |some fi=>Bool.or (prims.any (Nat.beq k)) (okFI Go.Proofs.Tryz.prog k fi)
 |none=>true
theorem all_ok:(List.range 1024).all okAt=true:=by kernel_rfl
def zmS:T FI→Nat
 |.e=>0
 |.n l _ r=>max 1 (max (2*zmS l) (2*zmS r+1))
theorem zkk:∀(t:T FI) (k:Nat),zmS t≤k→t.get k=none
 |.e,_,_=>rfl
 |.n l x r,0,h=>by simp only[zmS]at h;omega
 |.n l x r,k+1,h=>by
  simp only[zmS]at h
  simp only[T.get]
  split
  ·exact zkk l (k/2) (by omega)
  ·rename_i hk
   exact zkk r (k/2) (by omega)
theorem zoT:Nat.ble (zmS tree) 1024=true:=by kernel_rfl
theorem mixed:Go.Proofs.Tryz.prog.follows .mixedOrders=true:=by kernel_rfl
theorem okTree (k:Nat) (fi:FI) (h:tree.get k=some fi):k∈prims∨okFI Go.Proofs.Tryz.prog k fi=true:=by
 have hk:k<1024:=by
  rcases Nat.lt_or_ge k 1024 with hk|hk
  ·exact hk
  ·have h1:zmS tree≤1024:=Nat.le_of_ble_eq_true zoT
   rw[zkk tree k (by omega)]at h
   cases h
 have:=List.all_eq_true.1 all_ok k (List.mem_range.2 hk)
 unfold okAt at this
 rw[h]at this
 have this:(prims.any (Nat.beq k)||okFI Go.Proofs.Tryz.prog k fi)=true:=this
 rw[Bool.or_eq_true,List.any_eq_true]at this
 rcases this with⟨x,hx,e⟩|e
 ·rw[Nat.beq_eq]at e;subst e;exact .inl hx
 ·exact .inr e
end Go.Air.Try
