/-
  A part of the proof of: The row of BulletinTexts and its tied card, out of the lifted form.
-/
import Derived.Lib.LaidCaseMet
import Derived.PinnedBridge
import Derived.Test.YtekdhcpjoeikkaaGreatDoorRows
import Derived.ProofKit
import Derived.HandedShaped
import Derived.Lib.LaidTab
import Derived.Lib.LaidU8
import Derived.LaidSub
import Derived.Stop.LaidErr
import Derived.OpenShut
import Derived.Test.YtekdhcpjoeikkaaGreatDoorProg
import Derived.Test.YtekdhcpjoeikkaaGreatDoorTxH
import Derived.Test.YtekdhcpjoeikkaaGreatDoorTxJ
set_option linter.unusedSectionVars false
set_option linter.unusedVariables false
set_option linter.unusedSimpArgs false
set_option maxRecDepth 100000
namespace Go.Air
theorem caseL : Go.Proofs.Lays.n274 P9 Go.Proofs.Tryz.lays159_ren := { Go.Proofs.Tryz.lays159 with }
theorem u8L : Go.Proofs.Lays.n260 P9 Go.Proofs.Tryz.lays159_ren := { Go.Proofs.Tryz.lays159 with }
theorem caseX : Go.Proofs.CaseExtra P9 Go.Proofs.Tryz.lays159_ren := ⟨by kernel_rfl, by kernel_rfl, by kernel_rfl, by kernel_rfl, by kernel_rfl, by kernel_rfl⟩
theorem u8X : Go.Proofs.U8Extra P9 Go.Proofs.Tryz.lays159_ren := ⟨by kernel_rfl, by kernel_rfl, by kernel_rfl, by kernel_rfl, by kernel_rfl, by kernel_rfl, by kernel_rfl⟩
theorem vars_split {P : Program} {w : World} : ∀ {l l' : List (String × DataW Unit)} {ps : List MemPlace}, DataW.LaidVars P w (l ++ l') ps → ∃ p1 p2, ps = p1 ++ p2 ∧ DataW.LaidVars P w l p1 ∧ DataW.LaidVars P w l' p2
  | [], _, ps, h => ⟨[], ps, rfl, rfl, h⟩
  | (n, d) :: r, l', ps, h => by
    obtain ⟨g, t, cs, fuel, p, q, h1, h2, h3, h4, h5, rfl⟩ := h
    obtain ⟨p1, p2, rfl, q1, q2⟩ := vars_split (l := r) h5
    exact ⟨MemPlace.row ⟨g, 0, none⟩ cs.size ++ p ++ p1, p2, by simp, ⟨g, t, cs, fuel, p, p1, h1, h2, h3, h4, q1, rfl⟩, q2⟩
theorem laidMet_move {P : Program} {w : World} {A B C : List (String × DataW Unit)} (h : laidMet P ((A ++ B) ++ C) w) : laidMet P (A ++ (C ++ B)) w := by
  obtain ⟨ps, h1, h2, h3⟩ := h
  obtain ⟨pab, pc, rfl, q1, q2⟩ := vars_split h1
  obtain ⟨pa, pb, rfl, q3, q4⟩ := vars_split q1
  have hp : (pa ++ (pc ++ pb)).Perm ((pa ++ pb) ++ pc) := by
    rw [List.append_assoc]
    exact List.Perm.append_left _ List.perm_append_comm
  exact ⟨pa ++ (pc ++ pb), Go.Proofs.LaidVars_append q3 (Go.Proofs.LaidVars_append q2 q4), hp.nodup_iff.2 h2, fun b off hm => h3 b off (hp.mem_iff.1 hm)⟩
end Go.Air
set_option maxRecDepth 100000
namespace Go.Air
open Go.Proofs.YtekdhcpjoeikkaaGreatDoor
def notCase (x : String × DataW Unit) : Bool := x.1 != "unicode.CaseRanges"
def ahead : List (String × DataW Unit) := laidList.takeWhile notCase
def behind : List (String × DataW Unit) := (laidList.dropWhile notCase).drop 1
theorem laid_parts : laidList = ahead ++ ([("unicode.CaseRanges", Lib.caseData)] ++ behind) := by kernel_rfl
theorem laid_case (os : Os) (args : Array Value) : laidMet P9 ((ahead ++ behind) ++ [("unicode.CaseRanges", Lib.caseData)]) ((laidWorld os).forCall (fun _ _ => 0) ⟨#[], args, []⟩).memory :=
  Go.Proofs.laidMet_with_case (ρ := Go.Proofs.Tryz.lays159_ren) caseL (by kernel_rfl) caseX 12 (by kernel_rfl) (by kernel_rfl) (by kernel_rfl) 16 caseRT (of_decide_eq_true (by kernel_rfl)) (by kernel_rfl) (by kernel_rfl) (by kernel_rfl)
theorem laid_reads (os : Os) (args : Array Value) : laidMetH P9 laidList ((laidWorld os).forCall (fun _ _ => 0) ⟨#[], args, []⟩).memory := by
  have h : laidMet P9 laidList ((laidWorld os).forCall (fun _ _ => 0) ⟨#[], args, []⟩).memory := by
    rw [laid_parts]
    exact laidMet_move (laid_case os args)
  exact h
end Go.Air
set_option maxRecDepth 100000
namespace Go.Air
open Go.ChangeShapes Go.WideShapes Go.ChangeAt Go.RowKit
def absV (n : Nat) : Value → Option V
  | .int k i => some (.i k i)
  | .bool b => some (.b b)
  | .string b => some (.s (b.data.toList.map UInt8.toNat))
  | .slice none 0 0 => some .sn
  | .slice (some ⟨b, o, none⟩) l c => if b < n ∧ l ≤ c ∧ 0 < c then some (.sl b o l c none) else if l = 0 ∧ c = 0 then some (.se ⟨b, o, none⟩) else none
  | .slice (some ⟨b, o, some s⟩) l c => if l = 0 ∧ c = 0 then some (.se ⟨b, o, some s⟩) else none
  | .iface t (.pointer (some ⟨b, o, none⟩)) => if b < n then some (.ifc t (.p b o)) else none
  | _ => none
def R0 (w : World) : Emb := fun b => if b < w.heap.size then some (b, 0) else none
theorem absV_conc {w : World} {v : Value} {u : V} (h : absV w.heap.size v = some u) : conc (R0 w) u = some v := by
  unfold absV at h
  split at h
  · cases h; simp [conc]
  · cases h; simp [conc]
  · rename_i b
    cases h
    have h1 : (b.data.toList.map UInt8.toNat).all (Nat.blt · 256) = true := by
      rw [List.all_map, List.all_eq_true]
      intro x _
      show Nat.blt x.toNat 256 = true
      rw [Nat.blt_eq]
      exact x.toNat_lt
    have h2 : byteArr (b.data.toList.map UInt8.toNat) = b := by
      unfold byteArr
      rw [List.map_map]
      have : (UInt8.ofNat ∘ UInt8.toNat) = id := by funext x; simp
      rw [this]
      simp
    simp only [conc, h1, if_true, h2]
  · cases h; simp [conc]
  · split at h
    · rename_i hc
      cases h
      simp [conc, R0, hc.1]
    · split at h <;> try cases h
      rename_i hc
      obtain ⟨rfl, rfl⟩ := hc
      simp [conc]
  · split at h <;> try cases h
    rename_i hc
    obtain ⟨rfl, rfl⟩ := hc
    simp [conc]
  · split at h <;> try cases h
    rename_i hc
    simp [conc, R0, hc]
  · cases h
def mkT (f : Nat → Option Blk) : Nat → T Blk
  | 0 => .e
  | n + 1 => (mkT f n).set n (f n)
theorem mkT_get (f : Nat → Option Blk) : ∀ (n b : Nat), (mkT f n).get b = if b < n then f b else none
  | 0, b => by cases b <;> simp [mkT, T.get]
  | n + 1, b => by
    simp only [mkT, T.get_set, mkT_get f n b]
    by_cases h : b = n
    · subst h; simp
    · simp only [if_neg h]
      by_cases h2 : b < n
      · rw [if_pos h2, if_pos (by omega)]
      · rw [if_neg h2, if_neg (by omega)]
def roOf (n : Nat) : Option Obj → Option Blk
  | some (.cells arr _ _) => some (.ro (arr.toList.map (absV n)))
  | _ => none
def h0 (w : World) : H := ⟨w.heap.size, mkT (fun b => roOf w.heap.size w.heap[b]?) w.heap.size, []⟩
theorem h0_get (w : World) (b : Nat) : (h0 w).get b = if b < w.heap.size then roOf w.heap.size w.heap[b]? else none := mkT_get _ _ _
theorem h0_sim (P : Program) (w : World) (h4 : ∀ b ∈ fixB, b < w.heap.size) : Sim P allB (R0 w) (h0 w).get w := by
  refine ⟨?_, ?_, ?_, fun b hb => if_pos (h4 b hb)⟩
  · intro b c sz x _ hb hx
    simp only [R0] at hb
    split at hb <;> simp only [Option.some.injEq, Prod.mk.injEq, reduceCtorEq] at hb
    rename_i hlt
    obtain ⟨rfl, rfl⟩ := hb
    rw [h0_get, if_pos hlt] at hx
    unfold roOf at hx
    split at hx <;> simp only [Option.some.injEq, reduceCtorEq] at hx
    rename_i arr e f ho
    subst hx
    refine ⟨arr, e, f, ho, by simp, fun i v hi => ?_⟩
    rw [List.getElem?_map, Option.map_eq_some_iff] at hi
    obtain ⟨y, h1, h2⟩ := hi
    exact ⟨y, h1, absV_conc h2⟩
  · intro b b' c sz sz' x x' _ _ hb hb' _ _
    simp only [R0] at hb hb'
    split at hb <;> simp only [Option.some.injEq, Prod.mk.injEq, reduceCtorEq] at hb
    split at hb' <;> simp only [Option.some.injEq, Prod.mk.injEq, reduceCtorEq] at hb'
    omega
  · intro b c sz hb
    simp only [R0] at hb
    split at hb <;> simp only [Option.some.injEq, Prod.mk.injEq, reduceCtorEq] at hb
    omega
theorem h0_wf (w : World) : WF (h0 w) := by
  refine ⟨fun b hb => ?_, fun _ hb => by simp [h0] at hb⟩
  have hb : w.heap.size ≤ b := hb
  rw [h0_get, if_neg (by omega)]
theorem lift_true {g : Nat} {args : List V} {vs : List Value} {W : World} (h4 : ∀ b ∈ fixB, b < W.heap.size) (hx : Try.tb1.ext g = false) (hargs : concL (R0 W) args = some vs)
    (hrun : WC Try.tb1 (.fn g [] []) args (h0 W) fun v h' => v = .b true ∧ Ext (h0 W) h') :
    Calls Go.Proofs.Tryz.prog g vs.toArray W fun e W' => e = .returned (.bool true) ∧ Below W.heap.size W W' := by
  obtain ⟨k, r, he, hq⟩ := hrun
  cases r with
  | fail => exact hq.elim
  | pan v h' => exact hq.elim
  | ok v h' =>
  obtain ⟨rfl, hxx⟩ := hq
  have hfr : Fresh (R0 W) (h0 W) h' := fun b hb _ => by
    have hb : W.heap.size ≤ b := hb
    simp only [R0]
    rw [if_neg (by omega)]
  have h1 := (air_fn Try.mixed ok1 hx he (h0_sim _ W h4) hfr (h0_wf W) hargs).2 none 0
  have h2 : CallsIn Fence.wide 0 Go.Proofs.Tryz.prog g vs.toArray W _ := h1
  refine (callsIn_wide.1 h2).mono ?_
  intro e W' q
  cases e with
  | returned x =>
    obtain ⟨R', l, f, _, hc⟩ := q
    refine ⟨by simp [conc] at hc; rw [hc], f.io.1, f.io.2.1, f.io.2.2, f.size, fun c hlt => f.frame c hlt fun b sz hb hl => ?_⟩
    obtain ⟨l', e1, e2⟩ := hxx.log
    have e3 := f.log
    rw [e1] at e3
    have : l' = l := List.append_cancel_right e3
    subst this
    have := e2 b hl
    have hn : (h0 W).next = W.heap.size := rfl
    simp only [R0] at hb
    split at hb <;> simp only [Option.some.injEq, Prod.mk.injEq, reduceCtorEq] at hb
    omega
  | _ => exact q.elim
theorem own : ownKnob Go.Proofs.Tryz.prog.godebug = none := by kernel_rfl
theorem trodAll_stays {H : Type} {enc : TypeId × Value → H} {P : Program} {base : Nat} (hl : laidOutB P = true) {W W' : World} {sp : Nat → Bool} : ∀ {ts : List TypeId} {vs : List Value} {ds : List (DataW H)} {ps : List MemPlace},
    (∀ t ∈ ts, P.readableRec t = true ∧ t < P.types.size) → DataW.TrodAll enc P W base (fun _ => true) true ts vs ds ps → (∀ p ∈ ps, W.sameAt W' p) → (∀ p ∈ ps, sp p.block = true) → DataW.TrodAll enc P W' base sp true ts vs ds ps
  | [], _, _, _, _, h, _, _ => by
    obtain ⟨rfl, rfl, rfl⟩ := trodAll_nil h
    exact h
  | t :: ts, _, _, _, ht, h, h1, h2 => by
    obtain ⟨v, vs1, d, ds1, a, b, rfl, rfl, rfl, q1, q2⟩ := trodAll_cons h
    have := ht t (by simp)
    exact ⟨a, b, WideElems.Trod_stays hl this.1 this.2 q1 (fun p hp => h1 p (List.mem_append_left _ hp)) (fun p hp => h2 p (List.mem_append_left _ hp)),
      trodAll_stays hl (fun t ht' => ht t (by simp [ht'])) q2 (fun p hp => h1 p (List.mem_append_right _ hp)) (fun p hp => h2 p (List.mem_append_right _ hp)), rfl⟩
theorem trodAll_length {H : Type} {enc : TypeId × Value → H} {P : Program} {w : World} {base : Nat} {spare : Nat → Bool} {held : Bool} : ∀ {ts : List TypeId} {vs : List Value} {ds : List (DataW H)} {ps : List MemPlace},
    DataW.TrodAll enc P w base spare held ts vs ds ps → ds.length = ts.length
  | [], _, _, _, h => by
    obtain ⟨_, rfl, _⟩ := trodAll_nil h
    rfl
  | t :: ts, _, _, _, h => by
    obtain ⟨v, vs1, d, ds1, a, b, rfl, rfl, rfl, q1, q2⟩ := trodAll_cons h
    simp [trodAll_length q2]
noncomputable def readable (l : List TypeId) : Bool := l.all fun t => Go.Proofs.Tryz.prog.readableRec t && decide (t < Go.Proofs.Tryz.prog.types.size)
theorem post_true {H : Type} {enc : TypeId × Value → H} {f : Func} {s : ChangeSpec} {W W' : World} {args : Array Value} {bt : TypeId} {ds gs : List (DataW H)} {before : List MemPlace}
    (hW : DataW.Whole enc Go.Proofs.Tryz.prog f.params.toList s.vars false W args.toList ds gs before) (hv : s.vars = []) (hs : s.fn H ds = { results := [.lit (.bool true)], args := ds })
    (hr : f.resultTypes = #[bt]) (hbt : Go.Proofs.Tryz.prog.underlying bt = some .bool) (hp : readable f.params.toList = true) (hb : Below W.heap.size W W') :
    s.post enc Go.Proofs.Tryz.prog f false true false false W args (.bool true) W' := by
  have hlt := hW.lt
  have hW' := hW
  obtain ⟨p, q, hA, hV, rfl, hfz, hnd⟩ := hW
  rw [hv] at hV
  have hV0 := hV
  obtain ⟨rfl, rfl⟩ := trodVars_none hV
  have hread : ∀ t ∈ f.params.toList, Go.Proofs.Tryz.prog.readableRec t = true ∧ t < Go.Proofs.Tryz.prog.types.size := by
    intro t ht
    have := List.all_eq_true.1 hp t ht
    simpa using this
  have hlt' : ∀ x ∈ p, x.block < W.heap.size := fun x hx => hlt x (by simp [hx])
  have e : s.fn H (ds ++ []) = { results := [.lit (.bool true)], args := ds } := by simpa using hs
  refine ⟨ds, [], p ++ [], [], p, [], hW', ?_, ?_, ?_, hb.frame _, fun ha => by cases ha⟩
  · rw [e, hr]
    exact trodAll_mk1 (shut_bool hbt true)
  · rw [e]
    exact trodAll_stays laid hread hA (fun x hx => hb.same (hlt' x hx)) (fun x hx => by simpa using hlt' x hx)
  · rw [e, hv]
    exact hV0
theorem tab_of {W : World} (hL : laidMetH P9 laidList W) : tabBlk < W.heap.size ∧ isTab ((h0 W).get tabBlk) = true := by
  have hL : laidMet P9 laidList W := hL
  have hL := laidMet.filter (fun x => x.1 == "internal/strconv.uint64pow10") hL
  have hl : laidList.filter (fun x => x.1 == "internal/strconv.uint64pow10") = [("internal/strconv.uint64pow10", Lib.tabData .u64 Lib.pow10Tab)] := by kernel_rfl
  rw [hl] at hL
  have ht : Lib.TabIs P9 W "internal/strconv.uint64pow10" .u64 Lib.pow10Tab := Lib.tabIs_of_head (g := tabBlk) (t := 368) (n := 20) (e := 72) (by kernel_rfl) (by kernel_rfl) (by kernel_rfl) (by kernel_rfl) (by kernel_rfl) (by kernel_rfl) hL
  have hg : P9.globalNamed "internal/strconv.uint64pow10" = some tabBlk := by kernel_rfl
  unfold Lib.TabIs World.var? at ht
  rw [hg] at ht
  simp only [Option.bind_some] at ht
  split at ht <;> simp only [Option.some.injEq, reduceCtorEq] at ht
  rename_i cs t f ho
  have hlt : tabBlk < W.heap.size := by
    rcases Nat.lt_or_ge tabBlk W.heap.size with h | h
    · exact h
    · rw [Array.getElem?_eq_none h] at ho; cases ho
  refine ⟨hlt, ?_⟩
  rw [h0_get, if_pos hlt, ho, ht]
  rfl
theorem es_star : "*errors.errorString" = "*" ++ "errors.errorString" := by decide
theorem es_row (u : TypeId) (h : P9.typeName? 3 u = some "*errors.errorString") : u = esPtrT :=
  typeName_ptr_named (nm := "errors.errorString") (by rw [← es_star]; kernel_rfl) (by kernel_rfl) (by decide) u (by rw [← es_star]; exact h)
theorem err_of {W : World} {n : String} {g : Nat} {text : List UInt8} (hL : laidMet P9 [(n, .iface "*errors.errorString" (.ptr (.agg [.lit (.string text)])))] W) (hg : P9.globalNamed n = some g) (ht : (P9.globals[g]?).map (·.type) = some errT) :
    g < W.heap.size ∧ isErr ((h0 W).get g) = true := by
  obtain ⟨a, s, hv, hc, _, _⟩ := laid_sentinel (ms := #[("Error", sigT)]) (f := ⟨"s", strT, 0, false, "", "errors", 0⟩) hL hg ht (by kernel_rfl) es_row (tp := esPtrT) (te := esT) (ts := strT) (by kernel_rfl) (by kernel_rfl) rfl rfl (by kernel_rfl) (by kernel_rfl) (by kernel_rfl)
  unfold World.var? at hv
  rw [hg] at hv
  simp only [Option.bind_some] at hv
  split at hv <;> simp only [Option.some.injEq, reduceCtorEq] at hv
  rename_i cs t f ho
  have hlt : g < W.heap.size := by
    rcases Nat.lt_or_ge g W.heap.size with h | h
    · exact h
    · rw [Array.getElem?_eq_none h] at ho; cases ho
  refine ⟨hlt, ?_⟩
  unfold World.cell? at hc
  split at hc <;> try simp at hc
  rename_i arr e1 f1 ho1
  obtain ⟨b, o, sp⟩ := a
  obtain rfl : sp = none := hc.1
  have hb : b < W.heap.size := by
    rcases Nat.lt_or_ge b W.heap.size with h | h
    · exact h
    · rw [Array.getElem?_eq_none h] at ho1; cases ho1
  rw [h0_get, if_pos hlt, ho, hv]
  show isErr (some (.ro [absV W.heap.size (.iface esPtrT (.pointer (some ⟨b, o, none⟩)))])) = true
  have : absV W.heap.size (.iface esPtrT (.pointer (some ⟨b, o, none⟩))) = some (.ifc esPtrT (.p b o)) := if_pos hb
  rw [this]
  rfl
theorem reads_lt {P : Program} {W : World} {n : String} {g : Nat} {d : DataW Unit} (h : Lib.VarReads P W n d) (hg : P.globalNamed n = some g) : g < W.heap.size := by
  obtain ⟨g', t, cs, fuel, p, h1, _, h3, _⟩ := h
  rw [hg] at h1
  cases h1
  unfold World.var? at h3
  rw [hg] at h3
  simp only [Option.bind_some] at h3
  split at h3 <;> simp only [Option.some.injEq, reduceCtorEq] at h3
  rename_i ho
  rcases Nat.lt_or_ge g W.heap.size with h | h
  · exact h
  · rw [Array.getElem?_eq_none h] at ho; cases ho
def isLib (h : H) : Bool := isTab (h.get tabBlk) && (isErr (h.get synBlk) && isErr (h.get rngBlk))
theorem lib_of {W : World} (hL : laidMetH P9 laidList W) : (∀ b ∈ fixB, b < W.heap.size) ∧ isLib (h0 W) = true := by
  obtain ⟨t1, t2⟩ := tab_of hL
  have hL : laidMet P9 laidList W := hL
  have l1 := laidMet.filter (fun x => x.1 == "strconv.ErrSyntax") hL
  have e1 : laidList.filter (fun x => x.1 == "strconv.ErrSyntax") = [("strconv.ErrSyntax", .iface "*errors.errorString" (.ptr (.agg [.lit (.string [105, 110, 118, 97, 108, 105, 100, 32, 115, 121, 110, 116, 97, 120])])))] := by kernel_rfl
  rw [e1] at l1
  have l2 := laidMet.filter (fun x => x.1 == "strconv.ErrRange") hL
  have e2 : laidList.filter (fun x => x.1 == "strconv.ErrRange") = [("strconv.ErrRange", .iface "*errors.errorString" (.ptr (.agg [.lit (.string [118, 97, 108, 117, 101, 32, 111, 117, 116, 32, 111, 102, 32, 114, 97, 110, 103, 101])])))] := by kernel_rfl
  rw [e2] at l2
  obtain ⟨s1, s2⟩ := err_of (g := synBlk) l1 (by kernel_rfl) (by kernel_rfl)
  obtain ⟨r1, r2⟩ := err_of (g := rngBlk) l2 (by kernel_rfl) (by kernel_rfl)
  refine ⟨fun b hb => ?_, by unfold isLib; rw [t2, s2, r2]; rfl⟩
  have c1 : caseBlk < W.heap.size := reads_lt (Lib.laidMet.reads hL (n := "unicode.CaseRanges") (d := Go.Proofs.YtekdhcpjoeikkaaGreatDoor.Rows.laid_unicode_CaseRanges) (by unfold laidList; repeat first | exact .head _ | apply List.Mem.tail)) (by kernel_rfl)
  have c2 : firstBlk < W.heap.size := reads_lt (Lib.laidMet.reads hL (n := "unicode/utf8.first") (d := Go.Proofs.YtekdhcpjoeikkaaGreatDoor.Rows.laid_unicode_utf8_first) (by unfold laidList; repeat first | exact .head _ | apply List.Mem.tail)) (by kernel_rfl)
  have c3 : accBlk < W.heap.size := reads_lt (Lib.laidMet.reads hL (n := "unicode/utf8.acceptRanges") (d := Go.Proofs.YtekdhcpjoeikkaaGreatDoor.Rows.laid_unicode_utf8_acceptRanges) (by unfold laidList; repeat first | exact .head _ | apply List.Mem.tail)) (by kernel_rfl)
  simp only [fixB, List.mem_cons, List.not_mem_nil, or_false] at hb
  rcases hb with rfl | rfl | rfl | rfl | rfl | rfl <;> assumption
theorem row_laid2 {g : Nat} {fn : Func} {s : ChangeSpec} {bt : TypeId} {args0 : Array Value} (hx : Try.tb1.ext g = false) (hfn : Go.Proofs.Tryz.prog.funcs[g]? = some fn) (hv : s.vars = [])
    (hs : ∀ (H : Type) (ds : List (DataW H)), ds.length = fn.params.size → s.fn H ds = { results := [.lit (.bool true)], args := ds })
    (hr : fn.resultTypes = #[bt]) (hbt : Go.Proofs.Tryz.prog.underlying bt = some .bool) (hp : readable fn.params.toList = true) (hni : Go.Proofs.Tryz.checked.prog.inits.idxOf? g = none)
    (os : Os) (started : os.Started) (H : Type) (enc : TypeId × Value → H)
    (hsh : ((laidWorld os).forCall (fun _ _ => 0) ⟨#[], args0, []⟩).Shaped P9)
    (w3 : Input.okWideB P9 ((laidWorld os).forCall (fun _ _ => 0) ⟨#[], args0, []⟩) g ⟨#[], args0, []⟩ = true)
    (w4 : s.preB enc P9 fn [] false ((laidWorld os).forCall (fun _ _ => 0) ⟨#[], args0, []⟩).memory args0 8 = true)
    (w5 : s.sizedB enc P9 fn false ((laidWorld os).forCall (fun _ _ => 0) ⟨#[], args0, []⟩).memory args0 8 = true)
    (hrun : ∀ (W : World) (args : List Value) (ds : List (DataW H)) (ps : List MemPlace) (base : Nat), (∀ (j : Nat) t v, fn.params[j]? = some t → args[j]? = some v → Value.okWide Go.Proofs.Tryz.prog W .any base t v) →
      DataW.TrodAll enc Go.Proofs.Tryz.prog W 0 (fun _ => true) true fn.params.toList args ds ps →
      (DataW.weightsEach Go.Proofs.Tryz.prog fn.params.toList ds).all (· ≤ reachBytes) = true → isLib (h0 W) = true → laidMetH P9 laidList W →
      ∃ us, concL (R0 W) us = some args ∧ WC Try.tb1 (.fn g [] []) us (h0 W) fun v h' => v = .b true ∧ Ext (h0 W) h') :
    ReturnsInHanded {} Go.Proofs.Tryz.checked os g .any (fun w args => (s.pre enc P9 fn [] false w args ∧ laidMetH P9 laidList w) ∧ sizedMet enc P9 fn (OpenSpec.ofChange s) false w args) (s.post enc Go.Proofs.Tryz.checked.prog fn false true false false) := by
  refine returnsInHanded_of_change_and (C := Go.Proofs.Tryz.checked) (X := fun w _ => laidMetH P9 laidList w) (fun _ _ _ hh h => h.of_heap hh) own started hni hfn
    ⟨laidWorld os, fun _ _ => 0, ⟨#[], args0, []⟩, rfl, hsh, (Input.okWide_of_okWideB (base := 0) w3).1, (Input.okWide_of_okWideB w3).2, ⟨⟨ChangeSpec.pre_of_preB w4, laid_reads os args0⟩, sizedMet_of_sizedB w5⟩, by
      simp only [Assume.holds]
      exact ⟨by simp, by simp, fun _ => Modest.zero, by simp, by simp⟩⟩ ?_
  intro W base args ds gs before hval hW _ hwt hL _
  have hW' := hW
  obtain ⟨p, q, hA, hV, rfl, hfz, hnd⟩ := hW
  rw [hv] at hV
  obtain ⟨rfl, rfl⟩ := trodVars_none hV
  have hw2 : (DataW.weightsEach Go.Proofs.Tryz.prog fn.params.toList ds).all (· ≤ reachBytes) = true := by
    have e : s.plain.varTypes Go.Proofs.Tryz.checked.prog = [] := by simp [DataSpec.varTypes, ChangeSpec.plain, hv]
    have h := hwt
    rw [e, List.append_nil, List.append_nil] at h
    exact h
  obtain ⟨us, h1, h2⟩ := hrun W args.toList ds p base (fun j t v h1 h2 => hval j t v h1 (by simpa using h2)) hA hw2 (lib_of hL).2 hL
  have hcall := lift_true (lib_of hL).1 hx h1 h2
  rw [Array.toArray_toList] at hcall
  refine hcall.mono ?_
  rintro e W' ⟨rfl, hb⟩
  exact ⟨_, rfl, post_true hW' hv (hs H ds (by simpa using trodAll_length hA)) hr hbt hp hb⟩
end Go.Air
set_option maxRecDepth 100000
namespace Go.Air
open Go.ChangeShapes Go.WideShapes Go.ChangeAt Go.RowKit Go.Air.Try
variable {W : World}
theorem top_le {n : Nat} (h : ∀ b ∈ fixB, b < n) : topBlk ≤ n := by
  simp only [fixB, List.mem_cons, List.not_mem_nil, or_false, forall_eq_or_imp, forall_eq] at h
  unfold topBlk
  omega
theorem tb4_of2 (h : isLib (h0 W) = true) (hf : ∀ b ∈ fixB, b < W.heap.size) : Tb4 (h0 W) := by
  unfold isLib at h
  simp only [Bool.and_eq_true] at h
  exact ⟨top_le hf, h.1, h.2.1, h.2.2⟩
theorem wf_i64 {x : Int} (h : (Lit.int .i64 x).wf = true) : I64 x := by
  simp only [Lit.wf, Bool.and_eq_true, decide_eq_true_eq] at h
  simp [IntKind.min, IntKind.max, IntKind.signed, IntKind.bits] at h
  unfold I64; omega
theorem wf_u8 {x : Int} (h : (Lit.int .u8 x).wf = true) : 0 ≤ x ∧ x < 256 := by
  simp only [Lit.wf, Bool.and_eq_true, decide_eq_true_eq] at h
  simp [IntKind.min, IntKind.max, IntKind.signed, IntKind.bits] at h
  omega
theorem open_hash {H : Type} {enc : TypeId × Value → H} {P : Program} {w : World} {base : Nat} {sp : Nat → Bool} {held : Bool} {fuel : Nat} {t e : TypeId} {n : Nat} {cs : List Value} {x : DataW H × List MemPlace}
    (ht : P.underlying t = some (.array n e)) (he : P.underlying e = some (.int .u8)) (hce : P.cellsOf e = 1) (hct : P.cellsOf t = n)
    (h : DataW.trod enc P w base sp held fuel t cs = some x) : ∃ l : List Nat, l.length = n ∧ (∀ c ∈ l, c < 256) ∧ cs = l.map fun c : Nat => Value.int .u8 (c : Int) := by
  obtain ⟨xs, m, _, _, hl, hlen, hf⟩ := DataW.trod_array ht h
  rw [hct] at hl
  have each : ∀ i : Nat, ∃ c : Nat, i < n → c < 256 ∧ cs[i]? = some (Value.int .u8 (c : Int)) := by
    intro i
    by_cases hi : i < n
    · have h1 := hf i hi
      rw [hce, Nat.mul_one, List.getElem?_eq_getElem (by omega)] at h1
      obtain ⟨z, hc, _, hw⟩ := DataW.trod_int he h1
      have hz := wf_u8 hw
      refine ⟨z.toNat, fun _ => ⟨by omega, ?_⟩⟩
      have := congrArg (·[0]?) hc
      simp [List.getElem?_take, List.getElem?_drop] at this
      rw [this]
      congr 2
      omega
    · exact ⟨0, fun h => absurd h hi⟩
  obtain ⟨f, hf'⟩ := Classical.axiomOfChoice each
  refine ⟨(List.range n).map f, by simp, fun c hc => ?_, ?_⟩
  · obtain ⟨i, hi, rfl⟩ := List.mem_map.1 hc
    exact (hf' i (List.mem_range.1 hi)).1
  · apply List.ext_getElem?
    intro i
    by_cases hi : i < n
    · rw [(hf' i hi).2, List.getElem?_map, List.getElem?_map, List.getElem?_range hi]; rfl
    · rw [List.getElem?_eq_none (by omega), List.getElem?_eq_none (by simp; omega)]
theorem concL_u8 (R : Emb) : ∀ l : List Nat, concL R (l.map u8) = some (l.map fun c : Nat => Value.int .u8 (c : Int))
  | [] => rfl
  | c :: l => by
    rw [List.map_cons]
    exact concL_cons.2 ⟨_, _, rfl, concL_u8 R l, rfl⟩
theorem conc_bytes (R : Emb) (b : ByteArray) : conc R (.s (b.data.toList.map UInt8.toNat)) = some (.string b) ∧ ∀ c ∈ b.data.toList.map UInt8.toNat, c < 256 := by
  have hlt : ∀ c ∈ b.data.toList.map UInt8.toNat, c < 256 := by
    intro c hc
    obtain ⟨x, _, rfl⟩ := List.mem_map.1 hc
    exact x.toNat_lt
  have h1 : (b.data.toList.map UInt8.toNat).all (Nat.blt · 256) = true := by
    rw [List.all_eq_true]
    intro c hc
    show Nat.blt c 256 = true
    rw [Nat.blt_eq]; exact hlt c hc
  have h2 : byteArr (b.data.toList.map UInt8.toNat) = b := by
    unfold byteArr
    rw [List.map_map]
    have : (UInt8.ofNat ∘ UInt8.toNat) = id := by funext x; simp
    rw [this]
    simp
  exact ⟨by simp only [conc, h1, if_true, h2], hlt⟩
theorem open_strA {H : Type} {enc : TypeId × Value → H} {t : TypeId} {base : Nat} {v : Value} {d : DataW H} {p : List MemPlace} (ht : Go.Proofs.Tryz.prog.underlying t = some .string)
    (hval : Value.okWide Go.Proofs.Tryz.prog W .any base t v) (hd : DataW.Trod enc Go.Proofs.Tryz.prog W 0 (fun _ => true) true t v d p) :
    ∃ l : List Nat, (∀ c ∈ l, c < 256) ∧ l.length ≤ 9223372036854775807 ∧ ∀ R, conc R (.s l) = some v := by
  obtain ⟨b, rfl⟩ := okWide_string ht hval
  obtain ⟨fuel, hf⟩ := hd
  obtain ⟨z, e1, _, w⟩ := DataW.trod_string ht hf
  simp [Value.cells] at e1
  subst e1
  refine ⟨b.data.toList.map UInt8.toNat, (conc_bytes (fun _ => none) b).2, ?_, fun R => (conc_bytes R b).1⟩
  simp only [List.length_map, Array.length_toList]
  exact w
end Go.Air
set_option maxRecDepth 100000
namespace Go.Air
open Go.ChangeShapes Go.WideShapes Go.ChangeAt Go.RowKit Go.Air.Try
variable {W : World}
theorem open_bulC {H : Type} {enc : TypeId × Value → H} {fuel : Nat} {cs : List Value} {x : DataW H × List MemPlace} (h : DataW.trod enc Go.Proofs.Tryz.prog W 0 (fun _ => true) true fuel 25 cs = some x) :
    ∃ b : Bul, b.Ok ∧ ∀ R, concL R b.cells = some cs := by
  have c31 : Go.Proofs.Tryz.prog.cellsOf 25 = 71 := by kernel_rfl
  have c3 : Go.Proofs.Tryz.prog.cellsOf 3 = 1 := by kernel_rfl
  have c4 : Go.Proofs.Tryz.prog.cellsOf 4 = 1 := by kernel_rfl
  have c5 : Go.Proofs.Tryz.prog.cellsOf 5 = 1 := by kernel_rfl
  have c9 : Go.Proofs.Tryz.prog.cellsOf 9 = 1 := by kernel_rfl
  have c25 : Go.Proofs.Tryz.prog.cellsOf 23 = 32 := by kernel_rfl
  have u3 : Go.Proofs.Tryz.prog.underlying 3 = some (.int .i64) := by kernel_rfl
  have u4 : Go.Proofs.Tryz.prog.underlying 4 = some .bool := by kernel_rfl
  have u5 : Go.Proofs.Tryz.prog.underlying 5 = some (.int .u8) := by kernel_rfl
  have u9 : Go.Proofs.Tryz.prog.underlying 9 = some .string := by kernel_rfl
  have u25 : Go.Proofs.Tryz.prog.underlying 23 = some (.array 32 5) := by kernel_rfl
  obtain ⟨xs, n, _, _, hl, hlen, hf⟩ := DataW.trod_struct Go.Proofs.Tryz.underlying25 h
  rw [c31] at hl
  have hlen : xs.length = 9 := hlen
  match xs, hlen with
  | [y0, y1, y2, y3, y4, y5, y6, y7, y8], _ =>
    have f0 : DataW.trod enc Go.Proofs.Tryz.prog W 0 (fun _ => true) true n 3 ((cs.drop 0).take (Go.Proofs.Tryz.prog.cellsOf 3)) = some y0 := hf 0 _ rfl
    have f1 : DataW.trod enc Go.Proofs.Tryz.prog W 0 (fun _ => true) true n 3 ((cs.drop 1).take (Go.Proofs.Tryz.prog.cellsOf 3)) = some y1 := hf 1 _ rfl
    have f2 : DataW.trod enc Go.Proofs.Tryz.prog W 0 (fun _ => true) true n 3 ((cs.drop 2).take (Go.Proofs.Tryz.prog.cellsOf 3)) = some y2 := hf 2 _ rfl
    have f3 : DataW.trod enc Go.Proofs.Tryz.prog W 0 (fun _ => true) true n 5 ((cs.drop 3).take (Go.Proofs.Tryz.prog.cellsOf 5)) = some y3 := hf 3 _ rfl
    have f4 : DataW.trod enc Go.Proofs.Tryz.prog W 0 (fun _ => true) true n 4 ((cs.drop 4).take (Go.Proofs.Tryz.prog.cellsOf 4)) = some y4 := hf 4 _ rfl
    have f5 : DataW.trod enc Go.Proofs.Tryz.prog W 0 (fun _ => true) true n 9 ((cs.drop 5).take (Go.Proofs.Tryz.prog.cellsOf 9)) = some y5 := hf 5 _ rfl
    have f6 : DataW.trod enc Go.Proofs.Tryz.prog W 0 (fun _ => true) true n 3 ((cs.drop 6).take (Go.Proofs.Tryz.prog.cellsOf 3)) = some y6 := hf 6 _ rfl
    have f7 : DataW.trod enc Go.Proofs.Tryz.prog W 0 (fun _ => true) true n 23 ((cs.drop 7).take (Go.Proofs.Tryz.prog.cellsOf 23)) = some y7 := hf 7 _ rfl
    have f8 : DataW.trod enc Go.Proofs.Tryz.prog W 0 (fun _ => true) true n 23 ((cs.drop 39).take (Go.Proofs.Tryz.prog.cellsOf 23)) = some y8 := hf 8 _ rfl
    rw [c3] at f0 f1 f2 f6
    rw [c5] at f3
    rw [c4] at f4
    rw [c9] at f5
    rw [c25] at f7 f8
    obtain ⟨n0, e0, _, w0⟩ := DataW.trod_int u3 f0
    obtain ⟨n1, e1, _, w1⟩ := DataW.trod_int u3 f1
    obtain ⟨n2, e2, _, w2⟩ := DataW.trod_int u3 f2
    obtain ⟨n3, e3, _, w3⟩ := DataW.trod_int u5 f3
    obtain ⟨n4, e4, _⟩ := DataW.trod_bool u4 f4
    obtain ⟨n5, e5, _, w5⟩ := DataW.trod_string u9 f5
    obtain ⟨n6, e6, _, w6⟩ := DataW.trod_int u3 f6
    obtain ⟨l7, q7, b7, e7⟩ := open_hash u25 u5 c5 c25 f7
    obtain ⟨l8, q8, b8, e8⟩ := open_hash u25 u5 c5 c25 f8
    have hk := wf_u8 w3
    refine ⟨⟨n0, n1, n2, n3.toNat, n4, n5.data.toList.map UInt8.toNat, n6, l7, l8⟩, ⟨wf_i64 w0, wf_i64 w1, wf_i64 w2, by show n3.toNat < 256; omega, wf_i64 w6, (conc_bytes (fun _ => none) n5).2, ?_, q7, q8, b7, b8⟩, fun R => ?_⟩
    · show (n5.data.toList.map UInt8.toNat).length ≤ _
      simp only [List.length_map, Array.length_toList]
      have : n5.size ≤ 9223372036854775807 := w5
      exact this
    · have hcs : cs = [.int .i64 n0, .int .i64 n1, .int .i64 n2, .int .u8 n3, .bool n4, .string n5, .int .i64 n6] ++ ((l7.map fun c : Nat => Value.int .u8 (c : Int)) ++ (l8.map fun c : Nat => Value.int .u8 (c : Int))) := by
        have hd : ∀ k, cs.drop k = (cs.drop k).take 1 ++ cs.drop (k + 1) := fun k => by
          have := (List.take_append_drop 1 (cs.drop k)).symm
          rw [List.drop_drop] at this
          exact this
        have h39 : (cs.drop 39).take 32 = cs.drop 39 := List.take_of_length_le (by simp; omega)
        have h7 : cs.drop 7 = (cs.drop 7).take 32 ++ cs.drop 39 := by
          have := (List.take_append_drop 32 (cs.drop 7)).symm
          rw [List.drop_drop] at this
          exact this
        rw [h39] at e8
        have h0 : cs = cs.drop 0 := rfl
        rw [h0, hd 0, hd 1, hd 2, hd 3, hd 4, hd 5, hd 6, h7, e0, e1, e2, e3, e4, e5, e6, e7, e8]
        rfl
      rw [hcs]
      unfold Bul.cells
      refine concL_append ?_ (concL_append (concL_u8 R l7) (concL_u8 R l8))
      have hn3 : ((n3.toNat : Nat) : Int) = n3 := Int.toNat_of_nonneg hk.1
      simp only [Bul.head, concL, conc, hn3]
      rw [show (if (n5.data.toList.map UInt8.toNat).all (Nat.blt · 256) = true then some (Value.string (byteArr (n5.data.toList.map UInt8.toNat))) else none) = some (.string n5) from (conc_bytes R n5).1]
theorem open_bulA {H : Type} {enc : TypeId × Value → H} {base : Nat} {v : Value} {d : DataW H} {p : List MemPlace} (hval : Value.okWide Go.Proofs.Tryz.prog W .any base 25 v)
    (hd : DataW.Trod enc Go.Proofs.Tryz.prog W 0 (fun _ => true) true 25 v d p) : ∃ b : Bul, b.Ok ∧ ∀ R, conc R (.agg b.cells) = some v := by
  obtain ⟨cs, rfl, hsz⟩ := okWide_struct Go.Proofs.Tryz.underlying25 hval
  obtain ⟨fuel, hf⟩ := hd
  obtain ⟨b, h1, h2⟩ := open_bulC (cs := cs.toList) hf
  refine ⟨b, h1, fun R => ?_⟩
  simp only [conc, h2 R]
end Go.Air
set_option maxRecDepth 100000
namespace Go.Air
open Go.ChangeShapes Go.WideShapes Go.ChangeAt Go.RowKit
theorem h0_cell {W : World} {b i : Nat} {x : Value} {v : V} (h : W.cell? ⟨b, i, none⟩ = some x) (ha : absV W.heap.size x = some v) : ∃ l, (h0 W).get b = some (.ro l) ∧ l[i]? = some (some v) ∧ b < W.heap.size := by
  unfold World.cell? at h
  split at h
  · rename_i c t f ho
    have hlt : b < W.heap.size := by
      rcases Nat.lt_or_ge b W.heap.size with q | q
      · exact q
      · rw [Array.getElem?_eq_none q] at ho; cases ho
    simp only [Option.isSome_none, Bool.false_eq_true, if_false] at h
    refine ⟨c.toList.map (absV W.heap.size), ?_, ?_, hlt⟩
    · rw [h0_get, if_pos hlt, ho]; rfl
    · rw [List.getElem?_map, Array.getElem?_toList, h, Option.map_some, ha]
  · cases h
theorem roI_of {W : World} {b i : Nat} {k : IntKind} {n : Int} (h : W.cell? ⟨b, i, none⟩ = some (.int k n)) : roI (h0 W) b i = some (k, n) := by
  obtain ⟨l, h1, h2, _⟩ := h0_cell (v := .i k n) h rfl
  unfold roI
  simp only [h1, h2]
theorem slice_fits {W : World} (h : Lib.VarReads P9 W "unicode.CaseRanges" Lib.caseData) {a : Option Addr} {len cap : Nat} (hc : W.cell? ⟨caseBlk, 0, none⟩ = some (.slice a len cap)) : len ≤ cap ∧ 0 < len := by
  obtain ⟨g, t, cs, fuel, p, hg, hty, hvar, hd⟩ := h
  obtain rfl := Option.some.inj (caseX.n13.symm.trans hg)
  obtain rfl := Option.some.inj (caseX.y13.symm.trans hty)
  rcases DataW.trod_slice caseL.t162 hd with ⟨_, hx'⟩ | ⟨a', len', cap', el, rs, m, rfl, hc0, hx', _, hlc, _, hel, helem, hsp, _⟩
  · cases hx'
  have e0 := congrArg Prod.fst hx'
  simp only [Lib.caseData, DataW.slice.injEq] at e0
  have hl := congrArg List.length e0.1
  simp only [List.length_map] at hl
  have h336 : Lib.caseT.length = 336 := by kernel_rfl
  have hv : W.cell? ⟨caseBlk, 0, none⟩ = cs[0]? := World.var?_cell hg hvar 0
  rw [hv, ← Array.getElem?_toList, hc0] at hc
  simp only [List.getElem?_cons_zero, Option.some.injEq, Value.slice.injEq] at hc
  obtain ⟨_, rfl, rfl⟩ := hc
  exact ⟨hlc, by omega⟩
theorem isU_of {W : World} (hL : laidMet P9 laidList W) : isU (h0 W) = true := by
  have r1 : Lib.VarReads P9 W "unicode.CaseRanges" Lib.caseData := by
    have := Lib.laidMet.reads hL (n := "unicode.CaseRanges") (d := Go.Proofs.YtekdhcpjoeikkaaGreatDoor.Rows.laid_unicode_CaseRanges) (by unfold laidList; repeat first | exact .head _ | apply List.Mem.tail)
    exact Pinned.caseRanges_eq ▸ this
  have r2 : Lib.VarReads P9 W "unicode/utf8.first" Lib.firstData := by
    have := Lib.laidMet.reads hL (n := "unicode/utf8.first") (d := Go.Proofs.YtekdhcpjoeikkaaGreatDoor.Rows.laid_unicode_utf8_first) (by unfold laidList; repeat first | exact .head _ | apply List.Mem.tail)
    exact Pinned.utf8First_eq ▸ this
  have r3 : Lib.VarReads P9 W "unicode/utf8.acceptRanges" Lib.acceptData := by
    have := Lib.laidMet.reads hL (n := "unicode/utf8.acceptRanges") (d := Go.Proofs.YtekdhcpjoeikkaaGreatDoor.Rows.laid_unicode_utf8_acceptRanges) (by unfold laidList; repeat first | exact .head _ | apply List.Mem.tail)
    have e : (Go.Proofs.YtekdhcpjoeikkaaGreatDoor.Rows.laid_unicode_utf8_acceptRanges : DataW Unit) = Lib.acceptData := by kernel_rfl
    exact e ▸ this
  obtain ⟨R, oR, cap, hV, hT⟩ : Lib.CaseVar caseBlk Lib.caseA W := Go.Proofs.caseVar_of_reads caseL (by kernel_rfl) caseX r1
  obtain ⟨u1, u2⟩ : Lib.Utf8Tabs firstBlk accBlk W := Go.Proofs.utf8Tabs_of_reads u8L u8X r2 r3
  have hsz : Lib.caseA.size = 336 := by kernel_rfl
  rw [hsz] at hV
  obtain ⟨hlc, _⟩ := slice_fits r1 hV
  have hRlt : R < W.heap.size := by
    obtain ⟨_, _, _, h⟩ := h0_cell (v := .i .u32 _) (hT 0 (by omega)).1 rfl
    exact h
  have ha : absV W.heap.size (.slice (some ⟨R, oR, none⟩) 336 cap) = some (.sl R oR 336 cap none) := by
    simp only [absV]
    rw [if_pos ⟨hRlt, hlc, by omega⟩]
  obtain ⟨l, g1, g2, _⟩ := h0_cell hV ha
  have hco : caseOf (h0 W) = some (R, oR) := by
    cases l with
    | nil => cases g2
    | cons x l =>
      simp only [List.getElem?_cons_zero, Option.some.injEq] at g2
      subst g2
      unfold caseOf
      simp only [g1]
      have h1 : Nat.blt R (h0 W).next = true := by rw [Nat.blt_eq]; exact hRlt
      simp only [h1]
      rfl
  unfold isU
  rw [Bool.and_eq_true, Bool.and_eq_true]
  refine ⟨?_, ?_, ?_⟩
  · rw [List.all_eq_true]
    intro c hc
    rw [List.mem_range] at hc
    exact decide_eq_true (roI_of (u1 c hc))
  · rw [List.all_eq_true]
    intro i hi
    rw [List.mem_range] at hi
    rw [Bool.and_eq_true]
    exact ⟨decide_eq_true (roI_of (u2 i hi).1), decide_eq_true (roI_of (u2 i hi).2)⟩
  · rw [hco]
    show (List.range 336).all (fun i => isRow (h0 W) R oR i) = true
    rw [List.all_eq_true]
    intro i hi
    rw [List.mem_range] at hi
    obtain ⟨q0, q1, q2, q3, q4⟩ := hT i (by omega)
    unfold isRow
    simp only [Bool.and_eq_true, decide_eq_true_eq]
    exact ⟨roI_of q0, roI_of q1, roI_of q2, roI_of q3, roI_of q4⟩
theorem tbU_of {W : World} (h4 : topBlk ≤ (h0 W).next) (hL : laidMet P9 laidList W) : TbU (h0 W) := ⟨h4, isU_of hL⟩
end Go.Air
