/-
 A part of the proof of: The row of BulletinViews and its tied card,out of the lifted form.
-/
import GoSem.ClaimGoes
import Derived.Test.YtfdbelnklcjogaaGreatDoorVwK
set_option linter.unusedSectionVars false
set_option linter.unusedVariables false
set_option linter.unusedSimpArgs false
set_option maxRecDepth 100000
namespace Go.Air
noncomputable def goesAt (k:Nat):Bool:=match P9.funcs[k]? with
 |some fn=>fn.goes
 |none=>false
theorem zoC:Nat.ble P9.funcs.size 1024=true:=by kernel_rfl
theorem noGo0:(List.range' 0 256).any goesAt=false:=by kernel_rfl
theorem noGo1:(List.range' 256 256).any goesAt=false:=by kernel_rfl
theorem noGo2:(List.range' 512 256).any goesAt=false:=by kernel_rfl
theorem noGo3:(List.range' 768 256).any goesAt=false:=by kernel_rfl
theorem noGo (k:Nat) (fn:Func) (h:P9.funcs[k]? = some fn):fn.goes=false:=by
 have hk:k<1024:=Nat.lt_of_lt_of_le (by
  rcases Nat.lt_or_ge k P9.funcs.size with h1|h1
  ·exact h1
  ·rw[Array.getElem?_eq_none h1]at h;cases h) (Nat.le_of_ble_eq_true zoC)
 have hg:goesAt k=fn.goes:=by unfold goesAt;rw[h]
 rw[← hg]
 have key:∀a n,(List.range' a n).any goesAt=false→a≤k→k<a+n→goesAt k=false:=by
  intro a n h1 h2 h3
  rw[List.any_eq_false]at h1
  simpa using h1 k (List.mem_range'_1.2 ⟨h2,h3⟩)
 by_cases h0:k<256
 ·exact key _ _ noGo0 (by omega) (by omega)
 by_cases h1:k<512
 ·exact key _ _ noGo1 (by omega) (by omega)
 by_cases h2:k<768
 ·exact key _ _ noGo2 (by omega) (by omega)
 ·exact key _ _ noGo3 (by omega) (by omega)
theorem any_none {α:Type} {l:List α} {p:α→Bool} (h:∀x,p x=false):l.any p=false:=by
 rw[List.any_eq_false]
 intro x _
 simp[h x]
theorem noGoes (f:FuncId):P9.goes f=false:=by
 unfold Program.goes
 have h1:((P9.closure f).any fun g=>(P9.funcs[g]?).any Func.goes)=false:=any_none fun g=>by
  cases h:P9.funcs[g]? with
  |none=>rfl
  |some fn=>exact noGo g fn h
 have h2:P9.funcs.any Func.goes=false:=by
  rw[Array.any_eq_false]
  intro i hi
  have:=noGo i P9.funcs[i] (Array.getElem?_eq_getElem hi)
  simp[this]
 rw[h1,h2,Bool.and_false,Bool.or_false]
theorem goesBy_no (c:OpenClaim) (h:c.start=.entering):false=c.goesBy P9:=by
 unfold OpenClaim.goesBy Program.goesAt Program.goesFrom
 rw[h]
 cases P9.funcNamed c.func with
 |none=>rfl
 |some f=>simp[Option.any,noGoes f]
end Go.Air
