/-
  A part of the proof of: The row of BulletinTexts and its tied card, out of the lifted form.
-/
import Derived.LaidLaws
import Derived.LaidHandle
import Derived.Lib.LaidCaseMet
import Derived.Test.YtekdhcpjoeikkaaGreatDoorTxI
set_option linter.unusedSectionVars false
set_option linter.unusedVariables false
set_option linter.unusedSimpArgs false
set_option maxRecDepth 100000
namespace Go.Air
open Go.Proofs.YtekdhcpjoeikkaaGreatDoor
def lit1 : DataW Unit → List Value
  | .lit (.int k n) => [.int k n]
  | _ => []
def lit2 : DataW Unit → List Value
  | .agg l => l.flatMap lit1
  | d => lit1 d
def lit3 : DataW Unit → List Value
  | .agg l => l.flatMap lit2
  | d => lit2 d
def txt1 : DataW Unit → ByteArray
  | .lit (.string b) => ⟨b.toArray⟩
  | _ => ⟨#[]⟩
def txt2 : DataW Unit → ByteArray
  | .iface _ (.ptr (.agg [d])) => txt1 d
  | _ => ⟨#[]⟩
def laidList : List (String × DataW Unit) := [("math/bits.deBruijn32tab", Rows.laid_math_bits_deBruijn32tab), ("math/bits.deBruijn64tab", Rows.laid_math_bits_deBruijn64tab), ("internal/strconv.uint64pow10", Rows.laid_internal_strconv_uint64pow10), ("unicode/utf8.acceptRanges", Rows.laid_unicode_utf8_acceptRanges), ("strconv.ErrRange", Rows.laid_strconv_ErrRange), ("strconv.ErrSyntax", Rows.laid_strconv_ErrSyntax), ("unicode.CaseRanges", Rows.laid_unicode_CaseRanges), ("unicode/utf8.first", Rows.laid_unicode_utf8_first)]
def setCells (h : Array Obj) (x : Nat × List Value) : Array Obj := h.modify x.1 fun
  | .cells _ t f => .cells x.2.toArray t f
  | o => o
def caseRT : Nat := 448
def caseG : Nat := 2
def errBlocks : Array Obj := #[.cells #[.string (txt2 Rows.laid_strconv_ErrSyntax)] 373 (0, 0), .cells #[.string (txt2 Rows.laid_strconv_ErrRange)] 373 (0, 0), .cells Lib.caseCells5 caseRT (0, 0)]
def laidCells : List (Nat × List Value) := [(4, lit3 Rows.laid_internal_strconv_uint64pow10), (7, lit3 Rows.laid_math_bits_deBruijn32tab), (8, lit3 Rows.laid_math_bits_deBruijn64tab),
  (0, [.iface 371 (.pointer (some ⟨14, 0, none⟩))]), (1, [.iface 371 (.pointer (some ⟨15, 0, none⟩))]), (5, lit3 Rows.laid_unicode_utf8_first), (6, lit3 Rows.laid_unicode_utf8_acceptRanges)]
def laidCells2 : List (Nat × List Value) := (caseG, [.slice (some ⟨16, 0, none⟩) 336 336]) :: laidCells
noncomputable def laidWorld (os : Os) : World :=
  { World.holding P9 os ⟨errBlocks, #[], []⟩ with heap := laidCells2.foldl setCells (World.holding P9 os ⟨errBlocks, #[], []⟩).heap }
end Go.Air
