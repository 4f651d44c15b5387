/-
 A part of the proof of: The row of BulletinViews and its tied card,out of the lifted form.
-/
import Derived.LaidLaws
import Derived.LaidHandle
import Derived.Test.YtfdbelnklcjogaaGreatDoorVwK
set_option linter.unusedSectionVars false
set_option linter.unusedVariables false
set_option linter.unusedSimpArgs false
set_option maxRecDepth 100000
namespace Go.Air
open Go.Proofs.YtfdbelnklcjogaaGreatDoor
def lit1:DataW Unit→List Value
 |.lit (.int k n)=>[.int k n]
 |_=>[]
def lit2:DataW Unit→List Value
 |.agg l=>l.flatMap lit1
 |d=>lit1 d
def lit3:DataW Unit→List Value
 |.agg l=>l.flatMap lit2
 |d=>lit2 d
def txt1:DataW Unit→ByteArray
 |.lit (.string b)=>⟨b.toArray⟩
 |_=>⟨#[]⟩
def txt2:DataW Unit→ByteArray
 |.iface _ (.ptr (.agg [d]))=>txt1 d
 |_=>⟨#[]⟩
def laidList:List (String × DataW Unit):=[("internal/strconv.uint64pow10",Rows.laid_internal_strconv_uint64pow10),("math/bits.deBruijn32tab",Rows.laid_math_bits_deBruijn32tab),("math/bits.deBruijn64tab",Rows.laid_math_bits_deBruijn64tab),("strconv.ErrSyntax",Rows.laid_strconv_ErrSyntax),("strconv.ErrRange",Rows.laid_strconv_ErrRange),("unicode/utf8.first",Rows.laid_unicode_utf8_first),("unicode/utf8.acceptRanges",Rows.laid_unicode_utf8_acceptRanges)]
def setCells (h:Array Obj) (x:Nat × List Value):Array Obj:=h.modify x.1 fun
 |.cells _ t f=>.cells x.2.toArray t f
 |o=>o
def zlM:Array Obj := #[.cells #[.string (txt2 Rows.laid_strconv_ErrSyntax)] 403 (0,0),.cells #[.string (txt2 Rows.laid_strconv_ErrRange)] 403 (0,0)]
def zqa:List (Nat × List Value):=[(3,lit3 Rows.laid_internal_strconv_uint64pow10),(4,lit3 Rows.laid_math_bits_deBruijn32tab),(5,lit3 Rows.laid_math_bits_deBruijn64tab),
 (1,[.iface 401 (.pointer (some ⟨13,0,none⟩))]),(2,[.iface 401 (.pointer (some ⟨14,0,none⟩))]),(6,lit3 Rows.laid_unicode_utf8_first),(7,lit3 Rows.laid_unicode_utf8_acceptRanges)]
def laidCells2:List (Nat × List Value):=zqa
noncomputable def zbS (os:Os):World:=
 { World.holding P9 os ⟨zlM,#[],[]⟩ with heap:=laidCells2.foldl setCells (World.holding P9 os ⟨zlM,#[],[]⟩).heap }
theorem zoy (os:Os) (args:Array Value):laidMetH P9 laidList ((zbS os).forCall (fun _ _=>0) ⟨#[],args,[]⟩).memory:=by
 exact laidMetH_of_parts (laidMet_of_run' 12 (by kernel_rfl) (by kernel_rfl)) (by kernel_rfl)
end Go.Air
