/-
  The evaluator for the kernel answers what Air's evaluator answers. Second part: operations.
-/
import Derived.Test.YtlldpmkdjpmlpaaFastEq1
set_option linter.unusedSectionVars false
set_option linter.unusedVariables false
set_option linter.unusedSimpArgs false
namespace Go.Air.Fast
universe u
variable {α : Type}

theorem wrap64 {n : Int} (h0 : 0 ≤ n) (h1 : n ≤ 9223372036854775807) : IntKind.i64.wrap n = n := by
  unfold IntKind.wrap
  simp only [IntKind.bits, IntKind.signed, Bool.true_and, ge_iff_le, decide_eq_true_eq]
  have : n % (2 ^ 64 : Int) = n := Int.emod_eq_of_lt h0 (by omega)
  rw [this, if_neg (by omega)]

theorem slowBin_eq (op : BinOp) (a b : V) (h : H) (z : α) (k : V → H → α) : slowBin op a b h z k = RO.el (RO.ofV h (binV op a b)) z k := forceO_el _ _ _ _

theorem fast2_eq {op : BinOp} {f : Nat → Nat → α → (V → α) → α}
    (hf : ∀ m n s k, f m n s k = s ∨ ∃ v, binV op (.i .i64 (.ofNat m)) (.i .i64 (.ofNat n)) = some v ∧ f m n s k = k v) (a b : V) (h : H) (z : α) (k : V → H → α) :
    fast2 op f a b h z k = RO.el (RO.ofV h (binV op a b)) z k := by
  have slow : ∀ a b, fast2 op f a b h z k = slowBin op a b h z k → fast2 op f a b h z k = RO.el (RO.ofV h (binV op a b)) z k := fun a b e => e.trans (slowBin_eq op a b h z k)
  cases a <;> try exact slow _ _ rfl
  rename_i ka m
  cases ka <;> try exact slow _ _ rfl
  cases b <;> try exact slow _ _ rfl
  rename_i kb n
  cases kb <;> try exact slow _ _ rfl
  cases m <;> try exact slow _ _ rfl
  cases n <;> try exact slow _ _ rfl
  rename_i m n
  show f m n (slowBin op (.i .i64 (.ofNat m)) (.i .i64 (.ofNat n)) h z k) (fun v => k v h) = _
  rcases hf m n (slowBin op (.i .i64 (.ofNat m)) (.i .i64 (.ofNat n)) h z k) (fun v => k v h) with e | ⟨v, e1, e2⟩
  · rw [e]; exact slowBin_eq _ _ _ _ _ _
  · rw [e2, e1]; rfl

theorem casesB {b : Bool} {x y : α} : (Bool.casesOn (motive := fun _ => α) b x y) = if b then y else x := by cases b <;> rfl

theorem fAdd_ok (m n : Nat) (s : α) (k : V → α) : fAdd m n s k = s ∨ ∃ v, binV .add (.i .i64 (.ofNat m)) (.i .i64 (.ofNat n)) = some v ∧ fAdd m n s k = k v := by
  unfold fAdd
  cases hb : Nat.ble (Nat.add m n) 9223372036854775807 with
  | false => exact .inl rfl
  | true =>
    refine .inr ⟨.i .i64 (.ofNat (m + n)), ?_, forceN_eq _ _⟩
    have : m + n ≤ 9223372036854775807 := Nat.le_of_ble_eq_true hb
    simp only [binV, binI, if_true]
    rw [wrap64 (by simp; omega) (by simp; omega)]
    simp
theorem fSub_ok (m n : Nat) (s : α) (k : V → α) : fSub m n s k = s ∨ ∃ v, binV .sub (.i .i64 (.ofNat m)) (.i .i64 (.ofNat n)) = some v ∧ fSub m n s k = k v := by
  unfold fSub
  cases hb : (Nat.ble n m && Nat.ble m 9223372036854775807) with
  | false => exact .inl rfl
  | true =>
    refine .inr ⟨.i .i64 (.ofNat (m - n)), ?_, forceN_eq _ _⟩
    rw [Bool.and_eq_true] at hb
    have h1 : n ≤ m := Nat.le_of_ble_eq_true hb.1
    have h2 : m ≤ 9223372036854775807 := Nat.le_of_ble_eq_true hb.2
    simp only [binV, binI, if_true]
    rw [wrap64 (by simp; omega) (by simp; omega)]
    simp; omega
theorem fMul_ok (m n : Nat) (s : α) (k : V → α) : fMul m n s k = s ∨ ∃ v, binV .mul (.i .i64 (.ofNat m)) (.i .i64 (.ofNat n)) = some v ∧ fMul m n s k = k v := by
  unfold fMul
  cases hb : Nat.ble (Nat.mul m n) 9223372036854775807 with
  | false => exact .inl rfl
  | true =>
    refine .inr ⟨.i .i64 (.ofNat (m * n)), ?_, forceN_eq _ _⟩
    have h1 : m * n ≤ 9223372036854775807 := Nat.le_of_ble_eq_true hb
    have e : (Int.ofNat m * Int.ofNat n) = Int.ofNat (m * n) := by simp
    simp only [binV, binI, if_true]
    have h2 : (Int.ofNat (m * n)) ≤ 9223372036854775807 := by simp only [Int.ofNat_eq_natCast]; omega
    rw [e, wrap64 (n := Int.ofNat (m * n)) (Int.natCast_nonneg _) h2]
theorem ble_dec (m n : Nat) : Nat.ble m n = decide (m ≤ n) := by
  rw [Bool.eq_iff_iff]; simp
theorem blt_dec (m n : Nat) : Nat.blt m n = decide (m < n) := by
  rw [Bool.eq_iff_iff]; simp [Nat.blt]; omega
theorem beq_dec (m n : Nat) : Nat.beq m n = decide (m = n) := by
  rw [Bool.eq_iff_iff]; simp
theorem fLss_ok (m n : Nat) (s : α) (k : V → α) : fLss m n s k = s ∨ ∃ v, binV .lss (.i .i64 (.ofNat m)) (.i .i64 (.ofNat n)) = some v ∧ fLss m n s k = k v := by
  refine .inr ⟨.b (decide (m < n)), by simp [binV, binI], ?_⟩
  unfold fLss; rw [blt_dec]; cases decide (m < n) <;> rfl
theorem fLeq_ok (m n : Nat) (s : α) (k : V → α) : fLeq m n s k = s ∨ ∃ v, binV .leq (.i .i64 (.ofNat m)) (.i .i64 (.ofNat n)) = some v ∧ fLeq m n s k = k v := by
  refine .inr ⟨.b (decide (m ≤ n)), by simp [binV, binI], ?_⟩
  unfold fLeq; rw [ble_dec]; cases decide (m ≤ n) <;> rfl
theorem fGtr_ok (m n : Nat) (s : α) (k : V → α) : fGtr m n s k = s ∨ ∃ v, binV .gtr (.i .i64 (.ofNat m)) (.i .i64 (.ofNat n)) = some v ∧ fGtr m n s k = k v := by
  refine .inr ⟨.b (decide (n < m)), by simp [binV, binI], ?_⟩
  unfold fGtr; rw [blt_dec]; cases decide (n < m) <;> rfl
theorem fGeq_ok (m n : Nat) (s : α) (k : V → α) : fGeq m n s k = s ∨ ∃ v, binV .geq (.i .i64 (.ofNat m)) (.i .i64 (.ofNat n)) = some v ∧ fGeq m n s k = k v := by
  refine .inr ⟨.b (decide (n ≤ m)), by simp [binV, binI], ?_⟩
  unfold fGeq; rw [ble_dec]; cases decide (n ≤ m) <;> rfl
theorem fEql_ok (m n : Nat) (s : α) (k : V → α) : fEql m n s k = s ∨ ∃ v, binV .eql (.i .i64 (.ofNat m)) (.i .i64 (.ofNat n)) = some v ∧ fEql m n s k = k v := by
  refine .inr ⟨.b (decide (m = n)), by simp [binV, binI]; omega, ?_⟩
  unfold fEql; rw [beq_dec]; cases decide (m = n) <;> rfl
theorem fNeq_ok (m n : Nat) (s : α) (k : V → α) : fNeq m n s k = s ∨ ∃ v, binV .neq (.i .i64 (.ofNat m)) (.i .i64 (.ofNat n)) = some v ∧ fNeq m n s k = k v := by
  refine .inr ⟨.b (!decide (m = n)), by simp [binV, binI]; omega, ?_⟩
  unfold fNeq; rw [beq_dec]; cases decide (m = n) <;> rfl

theorem binK_eq (op : BinOp) (a b : V) (h : H) (z : α) (k : V → H → α) : binK op a b h z k = RO.el (RO.ofV h (binV op a b)) z k := by
  cases op <;> first | exact slowBin_eq _ _ _ _ _ _ | skip
  · exact fast2_eq fAdd_ok _ _ _ _ _
  · exact fast2_eq fSub_ok _ _ _ _ _
  · exact fast2_eq fMul_ok _ _ _ _ _
  · exact fast2_eq fEql_ok _ _ _ _ _
  · exact fast2_eq fNeq_ok _ _ _ _ _
  · exact fast2_eq fLss_ok _ _ _ _ _
  · exact fast2_eq fLeq_ok _ _ _ _ _
  · exact fast2_eq fGtr_ok _ _ _ _ _
  · exact fast2_eq fGeq_ok _ _ _ _ _

theorem asCells_eq (b : Blk) (z : α) (k : List V → α) : asCells b z k = match b with | .cells c => k c | _ => z := by cases b <;> rfl
theorem asMap_eq (b : Blk) (z : α) (k : List (V × V) → α) : asMap b z k = match b with | .map c => k c | _ => z := by cases b <;> rfl
theorem asLoop_eq (b : Blk) (z : α) (k : Loop → α) : asLoop b z k = match b with | .loop c => k c | _ => z := by cases b <;> rfl
theorem onesK_eq : ∀ (l : List V), onesK l = l.all V.oneCell
  | [] => rfl
  | x :: l => by
    show (Bool.casesOn (motive := fun _ => Bool) x.oneCell false (onesK l)) = _
    rw [onesK_eq l, List.all_cons]
    cases x.oneCell <;> rfl
theorem stK_eq (h : H) (b o : Nat) (vs : List V) (z : α) (k : H → α) : stK h b o vs z k = match storeAt h b o vs with | none => z | some h' => k h' := by
  unfold stK storeAt
  rw [hGet_eq]
  cases h.get b with
  | none => rfl
  | some bl =>
    cases bl with
    | cells cs =>
      simp only [asCells_eq, layK_eq]
      cases lay cs o vs with
      | none => rfl
      | some cs' =>
        simp only [onesK_eq]
        cases vs.all V.oneCell with
        | false => rfl
        | true => exact hPut_eq _ _ _ _
    | ro _ => rfl
    | map _ => rfl
    | loop _ => rfl
theorem rd1K_eq (b : Blk) (o : Nat) (z : α) (k : V → α) : rd1K b o z k = match b.rd1 o with | none => z | some v => k v := by
  cases b with
  | cells cs => exact nthOK_eq _ _ _ _
  | ro cs =>
    show (Option.casesOn (motive := fun _ => α) (nthO cs o) z k) = match nthO cs o with | none => z | some v => k v
    cases nthO cs o <;> rfl
  | map _ => rfl
  | loop _ => rfl
theorem rdK_eq (b : Blk) (o n : Nat) (z : α) (k : List V → α) : rdK b o n z k = match b.rd o n with | none => z | some v => k v := by
  cases b with
  | cells cs => exact cutK_eq _ _ _ _ _
  | ro cs =>
    show (Option.casesOn (motive := fun _ => α) (cutO cs o n) z k) = match cutO cs o n with | none => z | some v => k v
    cases cutO cs o n <;> rfl
  | map _ => rfl
  | loop _ => rfl
theorem srcK_eq (esz n : Nat) (h : H) (x : V) (z : α) (k : List V → α) : srcK esz n h x z k = match sourceCells esz n h x with | none => z | some l => k l := by
  have slow : (Option.casesOn (motive := fun _ => α) (sourceCells esz n h x) z fun l => nfL l k) = match sourceCells esz n h x with | none => z | some l => k l := by
    cases sourceCells esz n h x with
    | none => rfl
    | some l => exact nfL_eq _ _
  cases x <;> first | exact slow | skip
  · unfold srcK sourceCells
    cases Nat.beq n 0 <;> rfl
  · unfold srcK sourceCells
    simp only
    rw [hGet_eq]
    cases h.get _ with
    | none => rfl
    | some bl => exact rdK_eq _ _ _ _ _

theorem natK_eq (v : V) (z : α) (k : Nat → α) : natK v z k = match natOf v with | none => z | some n => k n := by
  cases v <;> try rfl
  rename_i kd n
  cases n <;> rfl

theorem mputK_eq (fk : KK) (key v : V) : ∀ (es : List (V × V)) (z : α) (k : List (V × V) → α), mputK fk key v es z k = match mput fk key v es with | none => z | some r => k r
  | [], _, _ => rfl
  | e :: es, z, k => by
    show (Bool.casesOn (motive := fun _ => α) (fk.fits e.1) z (Bool.casesOn (motive := fun _ => α) (keyEq key e.1) (mputK fk key v es z fun r => k (e :: r)) (k ((e.1, v) :: es)))) = _
    simp only [mput]
    cases fk.fits e.1 with
    | false => rfl
    | true =>
      simp only [if_true]
      cases keyEq key e.1 with
      | true => rfl
      | false =>
        simp only [Bool.false_eq_true, if_false]
        rw [mputK_eq fk key v es]
        cases mput fk key v es <;> rfl

theorem el_ite {c : Bool} {r : RO} {z : α} {k : V → H → α} : RO.el (if c then r else .fail) z k = Bool.casesOn (motive := fun _ => α) c z (RO.el r z k) := by cases c <;> rfl

def CallEq (cK : Call α) (call : V → List V → H → RO) : Prop := ∀ f args h z k, cK f args h z k = RO.el (call f args h) z k

theorem eOther_eq {op : A} {call : V → List V → H → RO} (hop : ∀ t h, evA (fun _ _ _ => .fail) op t h = evA call op t h) (t : List V) (h : H) (z : α) (k : V → H → α) : eOther op t h z k = RO.el (evA call op t h) z k := by
  unfold eOther
  rw [hop]
  cases evA call op t h with
  | fail => rfl
  | ok v h => exact forceV_eq _ _

theorem eSt_eq (n : Nat) (x v : X) {call : V → List V → H → RO} (cK : Call α) (t : List V) (h : H) (z : α) (k : V → H → α) : eSt n x v cK t h z k = RO.el (evA call (.st n x v) t h) z k := by
  unfold eSt
  simp only [evX_eq, evA]
  cases x.ev t <;> try rfl
  simp only [cellsK_eq, lenK_eq, stK_eq]
  cases Nat.beq (v.ev t).cells.length n with
  | false => rfl
  | true =>
    simp only [if_true]
    cases storeAt h _ _ (v.ev t).cells <;> rfl

theorem eApp_eq (esz bytes : Nat) (s x : X) {call : V → List V → H → RO} (cK : Call α) (t : List V) (h : H) (z : α) (k : V → H → α) : eApp esz bytes s x cK t h z k = RO.el (evA call (.app esz bytes s x) t h) z k := by
  unfold eApp
  simp only [evX_eq, evA]
  unfold appendV
  cases sourceLen (x.ev t) with
  | none => rfl
  | some n =>
    simp only [forceN_eq, srcK_eq]
    cases sourceCells esz n h (x.ev t) with
    | none => rfl
    | some new =>
      simp only
      rw [show Nat.ble (Nat.mul (Nat.add (Nat.mul 2 n) 200) bytes) 281474976710656 = Nat.ble ((2 * n + 200) * bytes) 281474976710656 from rfl]
      cases (Nat.ble ((2 * n + 200) * bytes) 281474976710656 && Nat.blt 0 bytes && Nat.blt 0 esz) with
      | false => rfl
      | true =>
        simp only [if_true]
        cases s.ev t <;> try rfl
        · simp only [hNew_eq]
          cases Nat.beq n 0 <;> rfl
        rotate_left
        · simp only [hNew_eq]
          cases Nat.beq n 0 <;> rfl
        · rename_i blk off len cap g
          simp only
          rw [show Nat.add len n = len + n from rfl]
          cases Nat.ble (len + n) cap with
          | true =>
            simp only [if_true, stK_eq]
            rw [show Nat.add off (Nat.mul len esz) = off + len * esz from rfl]
            cases storeAt h blk (off + len * esz) new <;> rfl
          | false =>
            simp only [Bool.false_eq_true, if_false]
            rw [show Nat.ble (Nat.mul (Nat.add (Nat.mul 2 (len + n)) 200) bytes) 281474976710656 = Nat.ble ((2 * (len + n) + 200) * bytes) 281474976710656 from rfl]
            cases Nat.ble ((2 * (len + n) + 200) * bytes) 281474976710656 with
            | false => rfl
            | true =>
              simp only [if_true]
              cases g with
              | none =>
                simp only [hGet_eq]
                cases h.get blk with
                | none => rfl
                | some bl =>
                  simp only [rdK_eq]
                  rw [show Nat.mul len esz = len * esz from rfl]
                  cases bl.rd off (len * esz) with
                  | none => rfl
                  | some old =>
                    simp only [appK_eq]
                    exact hNew_eq _ _ _
              | some e =>
                simp only [hGet_eq]
                cases h.get blk with
                | none => rfl
                | some bl =>
                  cases bl with
                  | ro _ => rfl
                  | map _ => rfl
                  | loop _ => rfl
                  | cells cs =>
                    simp only [asCells_eq, cutK_eq]
                    rw [show Nat.mul len esz = len * esz from rfl]
                    cases cut cs off (len * esz) with
                    | none => rfl
                    | some old =>
                      simp only [appK_eq, onesK_eq]
                      rw [show Nat.mul cap esz = cap * esz from rfl]
                      cases (Nat.beq e esz && Nat.beq off 0 && Nat.beq cs.length (cap * esz) && new.all V.oneCell) with
                      | false => rfl
                      | true =>
                        simp only [if_true, hKill_eq, hNew_eq]
                        rfl

theorem eCpy_eq (esz : Nat) (d s : X) {call : V → List V → H → RO} (cK : Call α) (t : List V) (h : H) (z : α) (k : V → H → α) : eCpy esz d s cK t h z k = RO.el (evA call (.cpy esz d s) t h) z k := by
  unfold eCpy
  simp only [evX_eq, evA]
  unfold copyV
  cases sourceLen (s.ev t) with
  | none => rfl
  | some m =>
    simp only
    cases d.ev t <;> try rfl
    simp only [forceN_eq, srcK_eq]
    cases sourceCells esz (Nat.min m _) h (s.ev t) with
    | none => rfl
    | some l =>
      simp only [stK_eq]
      cases storeAt h _ _ l <;> rfl

theorem eClr_eq (c : List V) (x : X) {call : V → List V → H → RO} (cK : Call α) (t : List V) (h : H) (z : α) (k : V → H → α) : eClr c x cK t h z k = RO.el (evA call (.clr c x) t h) z k := by
  unfold eClr
  simp only [evX_eq, evA]
  cases x.ev t <;> try rfl
  rename_i b o n _ _
  simp only [repK_eq, nfL_eq, stK_eq]
  cases Nat.beq n 0 with
  | true => rfl
  | false =>
    simp only [Bool.false_eq_true, if_false]
    cases storeAt h b o (rep c n) <;> rfl

theorem eMapSet_eq (fk : KK) (x kk v : X) {call : V → List V → H → RO} (cK : Call α) (t : List V) (h : H) (z : α) (k : V → H → α) : eMapSet fk x kk v cK t h z k = RO.el (evA call (.mapSet fk x kk v) t h) z k := by
  unfold eMapSet
  simp only [evX_eq, evA]
  cases x.ev t <;> try rfl
  simp only [hGet_eq]
  cases h.get _ with
  | none => rfl
  | some bl =>
    cases bl with
    | cells _ => rfl
    | ro _ => rfl
    | loop _ => rfl
    | map es =>
      simp only [asMap_eq]
      cases fk.fits (kk.ev t) with
      | false => rfl
      | true =>
        simp only [if_true, mputK_eq]
        cases mput fk (kk.ev t) (v.ev t) es with
        | none => rfl
        | some es' => exact hPut_eq _ _ _ _

theorem evAK_eq {cK : Call α} {call : V → List V → H → RO} (hc : CallEq cK call) (op : A) (t : List V) (h : H) (z : α) (k : V → H → α) : evAK op cK t h z k = RO.el (evA call op t h) z k := by
  cases op
  case mov x => exact evX_eq _ _ _
  case pick c a b =>
    show ePick c a b cK t h z k = _
    unfold ePick
    simp only [evX_eq, evA]
    cases c.ev t <;> try rfl
    rename_i b; cases b <;> rfl
  case alloc c =>
    show eAlloc c cK t h z k = _
    unfold eAlloc; rw [nfL_eq, hNew_eq]; rfl
  case box x =>
    show eBox x cK t h z k = _
    unfold eBox; rw [evX_eq, cellsK_eq, hNew_eq]; rfl
  case build c ps =>
    show eBuild c ps cK t h z k = _
    unfold eBuild; rw [nfL_eq, fillK_eq]; simp only [evA]; cases fill t c ps <;> rfl
  case buildSl c n ps =>
    show eBuildSl c n ps cK t h z k = _
    unfold eBuildSl; rw [nfL_eq, fillK_eq]; simp only [evA]
    cases fill t c ps with
    | none => rfl
    | some c => exact hNew_eq _ _ _
  case ld x =>
    show eLd x cK t h z k = _
    unfold eLd; simp only [evX_eq, evA]
    cases x.ev t <;> try rfl
    simp only [hGet_eq]
    cases h.get _ with
    | none => rfl
    | some bl =>
      simp only [rd1K_eq]
      cases bl.rd1 _ <;> rfl
  case ldn n x =>
    show eLdn n x cK t h z k = _
    unfold eLdn; simp only [evX_eq, evA]
    cases x.ev t <;> try rfl
    simp only [hGet_eq]
    cases h.get _ with
    | none => rfl
    | some bl =>
      simp only [rdK_eq]
      cases bl.rd _ n <;> rfl
  case st n x v => exact eSt_eq n x v cK _ _ _ _
  case nilck x =>
    show eNil x cK t h z k = _
    unfold eNil; simp only [evX_eq, evA]; cases x.ev t <;> rfl
  case bin op x y =>
    show eBin op x y cK t h z k = _
    unfold eBin; simp only [evX_eq, evA]; exact binK_eq _ _ _ _ _ _
  case eqv neg kd x y =>
    show eEqv neg kd x y cK t h z k = _
    unfold eEqv; simp only [evX_eq, evA]
    cases eqV kd (x.ev t) (y.ev t) with
    | none => rfl
    | some r => exact forceB_eq _ _
  case un op x =>
    show eUn op x cK t h z k = _
    unfold eUn; rw [evX_eq]; exact forceO_el _ _ _ _
  case conv kd x =>
    show eConv kd x cK t h z k = _
    unfold eConv; simp only [evX_eq, evA]
    cases x.ev t <;> try rfl
    exact forceZ_eq _ _
  case mkI ty x => exact evX_eq _ _ _
  case mkFn f a c =>
    show eMkFn f a c cK t h z k = _
    unfold eMkFn; rw [evL_eq, evL_eq]; rfl
  case mkMap =>
    show eMkMap cK t h z k = _
    unfold eMkMap; rw [hNew_eq]; rfl
  case mkSl c bytes l m =>
    show eMkSl c bytes l m cK t h z k = _
    unfold eMkSl; simp only [evX_eq, evA, natK_eq]
    cases natOf (l.ev t) with
    | none => rfl
    | some l =>
      cases natOf (m.ev t) with
      | none => rfl
      | some m =>
        simp only
        rw [show Nat.mul bytes m = bytes * m from rfl]
        cases (Nat.ble l m && Nat.ble m 281474976710656 && Nat.ble (bytes * m) 281474976710656) with
        | false => rfl
        | true => simp only [if_true, repK_eq, nfL_eq, hNew_eq]; rfl
  case slc esz x lo hi mx =>
    show eSlc esz x lo hi mx cK t h z k = _
    unfold eSlc
    rw [evX_eq]
    cases mx with
    | none => exact forceO_el _ _ _ _
    | some m => exact forceO_el _ _ _ _
  case slcA a b c d e => exact eOther_eq (fun _ _ => rfl) _ _ _ _
  case slcS a b c => exact eOther_eq (fun _ _ => rfl) _ _ _ _
  case fld off x =>
    show eFld off x cK t h z k = _
    unfold eFld; simp only [evX_eq, evA]
    cases x.ev t <;> try rfl
    exact forceN_eq _ _
  case fldv a b c => exact eOther_eq (fun _ _ => rfl) _ _ _ _
  case ixS esz x ix =>
    show eIxS esz x ix cK t h z k = _
    unfold eIxS; simp only [evX_eq, evA, natK_eq]
    cases natOf (ix.ev t) with
    | none => cases x.ev t <;> rfl
    | some n =>
      cases x.ev t <;> try rfl
      rename_i len _ _
      simp only
      cases Nat.blt n len with
      | false => rfl
      | true => exact forceN_eq _ _
  case ixA len esz x ix =>
    show eIxA len esz x ix cK t h z k = _
    unfold eIxA; simp only [evX_eq, evA, natK_eq]
    cases natOf (ix.ev t) with
    | none => cases x.ev t <;> rfl
    | some n =>
      cases x.ev t <;> try rfl
      simp only
      cases Nat.blt n len with
      | false => rfl
      | true => exact forceN_eq _ _
  case ixStr a b => exact eOther_eq (fun _ _ => rfl) _ _ _ _
  case ixV a b c d e => exact eOther_eq (fun _ _ => rfl) _ _ _ _
  case look a b c d e => exact eOther_eq (fun _ _ => rfl) _ _ _ _
  case mapSet fk x kk v => exact eMapSet_eq fk x kk v cK _ _ _ _
  case ext x n =>
    show eExt x n cK t h z k = _
    unfold eExt; simp only [evX_eq, evA]
    cases x.ev t <;> try rfl
    simp only [nthOK_eq]
    cases nth? _ n <;> rfl
  case call f args =>
    show eCall f args cK t h z k = _
    unfold eCall; rw [evX_eq, evL_eq]; exact hc _ _ _ _ _
  case lenS a => exact eOther_eq (fun _ _ => rfl) _ _ _ _
  case lenL x =>
    show eLenL x cK t h z k = _
    unfold eLenL; simp only [evX_eq, evA]; cases x.ev t <;> rfl
  case lenC n => rfl
  case lenM a => exact eOther_eq (fun _ _ => rfl) _ _ _ _
  case app e b s x => exact eApp_eq e b s x cK _ _ _ _
  case cpy e d s => exact eCpy_eq e d s cK _ _ _ _
  case clr c x => exact eClr_eq c x cK _ _ _ _
  case min a => exact eOther_eq (fun _ _ => rfl) _ _ _ _
  case max a => exact eOther_eq (fun _ _ => rfl) _ _ _ _
  case no => rfl
end Go.Air.Fast
