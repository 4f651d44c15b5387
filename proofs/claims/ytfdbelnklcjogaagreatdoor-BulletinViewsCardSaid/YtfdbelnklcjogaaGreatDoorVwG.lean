/-
 A part of the proof of: The row of BulletinViews and its tied card,out of the lifted form.
-/
import Derived.Test.YtfdbelnklcjogaaGreatDoorVwD
set_option linter.unusedSectionVars false
set_option linter.unusedVariables false
set_option linter.unusedSimpArgs false
set_option maxRecDepth 1000000
namespace Go.Air.Try
def zmE:V→Bool
 |.b true=>true
 |_=>false
def chkA:RO→Bool
 |.ok v h=>zmE v&&h.log.all (Nat.ble zcV)
 |_=>false
theorem zrh:chkA (run tbV 1000000 6 [] bareH)=true:=by kernel_rfl
theorem chk_pred {r:RO} (hk:chkA r=true):∃v h',r=.ok v h'∧(zmE v&&h'.log.all (Nat.ble zcV))=true:=by
 cases r with
 |fail=>cases hk
 |pan v h'=>cases hk
 |ok v h'=>exact⟨v,h',rfl,hk⟩
end Go.Air.Try
