/-
 A part of the proof of: The row of BulletinViews and its tied card,out of the lifted form.
-/
import Derived.Test.YtfdbelnklcjogaaGreatDoorRows
import Derived.LaidByTextLater
import Derived.SevenTiedAt
set_option linter.unusedSectionVars false
set_option linter.unusedVariables false
set_option linter.unusedSimpArgs false
set_option maxRecDepth 100000
namespace Go.Proofs.YtfdbelnklcjogaaGreatDoor
open Go
theorem pinV:Tryz.pinned.checked.prog.pinnedFits "unicode/utf8.first" = true:=by kernel_rfl
theorem zli:Tryz.pinned.checked.prog.headLifts.contains "ownunsafe" = false:=by kernel_rfl
theorem fitsV:Tryz.pinned.checked.prog.listedFits [("internal/strconv.uint64pow10",Rows.laid_internal_strconv_uint64pow10),("math/bits.deBruijn32tab",Rows.laid_math_bits_deBruijn32tab),("math/bits.deBruijn64tab",Rows.laid_math_bits_deBruijn64tab),("strconv.ErrSyntax",Rows.laid_strconv_ErrSyntax),("strconv.ErrRange",Rows.laid_strconv_ErrRange),("unicode/utf8.first",Rows.laid_unicode_utf8_first),("unicode/utf8.acceptRanges",Rows.laid_unicode_utf8_acceptRanges)]=true:=by
 unfold Program.listedFits
 rw[zli]
 kernel_rfl
def tieL:List (String × DataW Unit):=[("internal/strconv.uint64pow10",Rows.laid_internal_strconv_uint64pow10),("math/bits.deBruijn32tab",Rows.laid_math_bits_deBruijn32tab),("math/bits.deBruijn64tab",Rows.laid_math_bits_deBruijn64tab),("strconv.ErrSyntax",Rows.laid_strconv_ErrSyntax),("strconv.ErrRange",Rows.laid_strconv_ErrRange),("unicode/utf8.acceptRanges",Rows.laid_unicode_utf8_acceptRanges)]
theorem tieV_w:Tryz.prog.worded (varsWordLater true)=true:=by kernel_rfl
theorem tieV_x:Tryz.prog.worded (varsWordLater !true)=false:=by kernel_rfl
theorem tieV_r:Tryz.prog.worded rootWordLater=true:=by kernel_rfl
theorem tieV_k:tieL.map (fun x=>Tryz.prog.kindOfLater x.1)=([.data,.data,.data,.sentinel,.sentinel,.data]:List LaidKind).map some:=by kernel_rfl
theorem tieV_g:(Tryz.prog.funcNamed "gosem.cut.vars").isSome=true:=by kernel_rfl
theorem tieV_n:varsNamedLaterB Tryz.prog (varsId Tryz.prog) tieL=true:=by kernel_rfl
theorem tieV_d:∀os tape,varsDone Tryz.prog 400 (varsId Tryz.prog) os tape=true:=fun _ _=>by kernel_rfl
theorem tieV_1:∀os tape,(DataW.laidRun Tryz.prog (varsWorld Tryz.prog 400 (varsId Tryz.prog) os tape).memory 8 (tieL.map (·.1))).map (·.1)=some tieL:=fun _ _=>by kernel_rfl
theorem tieV_2:∀os tape,(DataW.laidRun Tryz.prog (varsWorld Tryz.prog 400 (varsId Tryz.prog) os tape).memory 8 (tieL.map (·.1))).map (fun x=>decide x.2.Nodup&&laidRowsB Tryz.prog (varsWorld Tryz.prog 400 (varsId Tryz.prog) os tape).memory x.2)=some true:=fun _ _=>by kernel_rfl
theorem tieV_p:(tieL.all fun x=>x.2.handleName?.isNone)=true:=by kernel_rfl
theorem tieV:Tryz.prog.laidByTextLater [("internal/strconv.uint64pow10",Rows.laid_internal_strconv_uint64pow10),("math/bits.deBruijn32tab",Rows.laid_math_bits_deBruijn32tab),("math/bits.deBruijn64tab",Rows.laid_math_bits_deBruijn64tab),("strconv.ErrSyntax",Rows.laid_strconv_ErrSyntax),("strconv.ErrRange",Rows.laid_strconv_ErrRange),("unicode/utf8.acceptRanges",Rows.laid_unicode_utf8_acceptRanges)] [.data,.data,.data,.sentinel,.sentinel,.data] true:=
 Program.laidByTextLater_by_run (laid:=tieL) 400 8 tieV_w tieV_x tieV_r tieV_k tieV_g tieV_n tieV_d tieV_1 tieV_2 tieV_p
theorem zjL:Rows.bulletinViewsRow.laidByTextAt .later Tryz.pinned [.data,.data,.data,.sentinel,.sentinel,.pinned,.data] true:=
 OpenClaim.laidByTextAt_pinned rfl rfl tieV rfl rfl rfl rfl (fun y hy _e=>by
  simp only[Rows.bulletinViewsRow,List.zip_cons_cons,List.zip_nil_right,List.mem_cons,List.mem_nil_iff,or_false]at hy
  rcases hy with rfl|rfl|rfl|rfl|rfl|rfl|rfl
  ·cases _e
  ·cases _e
  ·cases _e
  ·cases _e
  ·cases _e
  ·exact⟨pinV,by kernel_rfl⟩
  ·cases _e) fitsV
end Go.Proofs.YtfdbelnklcjogaaGreatDoor
