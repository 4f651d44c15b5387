/-
  A part of the proof of: The row of BulletinAnnounces and its tied card, out of the lifted form.
-/
import Derived.Test.YtolfigdgknfdaaaGreatDoorRows
import Derived.ProofKit
import Derived.HandedShaped
import Derived.Lib.LaidTab
import Derived.LaidSub
import Derived.Stop.LaidErr
import Derived.OpenShut
import Derived.Test.YtolfigdgknfdaaaGreatDoorProg
import Derived.Test.YtolfigdgknfdaaaGreatDoorAnI
import Derived.Test.YtolfigdgknfdaaaGreatDoorAnK
set_option linter.unusedSectionVars false
set_option linter.unusedVariables false
set_option linter.unusedSimpArgs false
set_option maxRecDepth 100000
namespace Go.Air
open Go.ChangeShapes Go.WideShapes Go.ChangeAt Go.RowKit
def absV (n : Nat) : Value → Option V
  | .int k i => some (.i k i)
  | .bool b => some (.b b)
  | .string b => some (.s (b.data.toList.map UInt8.toNat))
  | .slice none 0 0 => some .sn
  | .slice (some ⟨b, o, none⟩) l c => if b < n ∧ l ≤ c ∧ 0 < c then some (.sl b o l c none) else if l = 0 ∧ c = 0 then some (.se ⟨b, o, none⟩) else none
  | .slice (some ⟨b, o, some s⟩) l c => if l = 0 ∧ c = 0 then some (.se ⟨b, o, some s⟩) else none
  | .iface t (.pointer (some ⟨b, o, none⟩)) => if b < n then some (.ifc t (.p b o)) else none
  | _ => none
def R0 (w : World) : Emb := fun b => if b < w.heap.size then some (b, 0) else none
theorem absV_conc {w : World} {v : Value} {u : V} (h : absV w.heap.size v = some u) : conc (R0 w) u = some v := by
  unfold absV at h
  split at h
  · cases h; simp [conc]
  · cases h; simp [conc]
  · rename_i b
    cases h
    have h1 : (b.data.toList.map UInt8.toNat).all (Nat.blt · 256) = true := by
      rw [List.all_map, List.all_eq_true]
      intro x _
      show Nat.blt x.toNat 256 = true
      rw [Nat.blt_eq]
      exact x.toNat_lt
    have h2 : byteArr (b.data.toList.map UInt8.toNat) = b := by
      unfold byteArr
      rw [List.map_map]
      have : (UInt8.ofNat ∘ UInt8.toNat) = id := by funext x; simp
      rw [this]
      simp
    simp only [conc, h1, if_true, h2]
  · cases h; simp [conc]
  · split at h
    · rename_i hc
      cases h
      simp [conc, R0, hc.1]
    · split at h <;> try cases h
      rename_i hc
      obtain ⟨rfl, rfl⟩ := hc
      simp [conc]
  · split at h <;> try cases h
    rename_i hc
    obtain ⟨rfl, rfl⟩ := hc
    simp [conc]
  · split at h <;> try cases h
    rename_i hc
    simp [conc, R0, hc]
  · cases h
def mkT (f : Nat → Option Blk) : Nat → T Blk
  | 0 => .e
  | n + 1 => (mkT f n).set n (f n)
theorem mkT_get (f : Nat → Option Blk) : ∀ (n b : Nat), (mkT f n).get b = if b < n then f b else none
  | 0, b => by cases b <;> simp [mkT, T.get]
  | n + 1, b => by
    simp only [mkT, T.get_set, mkT_get f n b]
    by_cases h : b = n
    · subst h; simp
    · simp only [if_neg h]
      by_cases h2 : b < n
      · rw [if_pos h2, if_pos (by omega)]
      · rw [if_neg h2, if_neg (by omega)]
def roOf (n : Nat) : Option Obj → Option Blk
  | some (.cells arr _ _) => some (.ro (arr.toList.map (absV n)))
  | _ => none
def h0 (w : World) : H := ⟨w.heap.size, mkT (fun b => roOf w.heap.size w.heap[b]?) w.heap.size, []⟩
theorem h0_get (w : World) (b : Nat) : (h0 w).get b = if b < w.heap.size then roOf w.heap.size w.heap[b]? else none := mkT_get _ _ _
theorem h0_sim (P : Program) (w : World) (h4 : ∀ b ∈ fixB, b < w.heap.size) : Sim P allB (R0 w) (h0 w).get w := by
  refine ⟨?_, ?_, ?_, fun b hb => if_pos (h4 b hb)⟩
  · intro b c sz x _ hb hx
    simp only [R0] at hb
    split at hb <;> simp only [Option.some.injEq, Prod.mk.injEq, reduceCtorEq] at hb
    rename_i hlt
    obtain ⟨rfl, rfl⟩ := hb
    rw [h0_get, if_pos hlt] at hx
    unfold roOf at hx
    split at hx <;> simp only [Option.some.injEq, reduceCtorEq] at hx
    rename_i arr e f ho
    subst hx
    refine ⟨arr, e, f, ho, by simp, fun i v hi => ?_⟩
    rw [List.getElem?_map, Option.map_eq_some_iff] at hi
    obtain ⟨y, h1, h2⟩ := hi
    exact ⟨y, h1, absV_conc h2⟩
  · intro b b' c sz sz' x x' _ _ hb hb' _ _
    simp only [R0] at hb hb'
    split at hb <;> simp only [Option.some.injEq, Prod.mk.injEq, reduceCtorEq] at hb
    split at hb' <;> simp only [Option.some.injEq, Prod.mk.injEq, reduceCtorEq] at hb'
    omega
  · intro b c sz hb
    simp only [R0] at hb
    split at hb <;> simp only [Option.some.injEq, Prod.mk.injEq, reduceCtorEq] at hb
    omega
theorem h0_wf (w : World) : WF (h0 w) := by
  refine ⟨fun b hb => ?_, fun _ hb => by simp [h0] at hb⟩
  have hb : w.heap.size ≤ b := hb
  rw [h0_get, if_neg (by omega)]
theorem lift_true {g : Nat} {args : List V} {vs : List Value} {W : World} (h4 : ∀ b ∈ fixB, b < W.heap.size) (hx : Try.tb1.ext g = false) (hargs : concL (R0 W) args = some vs)
    (hrun : WC Try.tb1 (.fn g [] []) args (h0 W) fun v h' => v = .b true ∧ Ext (h0 W) h') :
    Calls Go.Proofs.Tryz.prog g vs.toArray W fun e W' => e = .returned (.bool true) ∧ Below W.heap.size W W' := by
  obtain ⟨k, r, he, hq⟩ := hrun
  cases r with
  | fail => exact hq.elim
  | pan v h' => exact hq.elim
  | ok v h' =>
  obtain ⟨rfl, hxx⟩ := hq
  have hfr : Fresh (R0 W) (h0 W) h' := fun b hb _ => by
    have hb : W.heap.size ≤ b := hb
    simp only [R0]
    rw [if_neg (by omega)]
  have h1 := (air_fn Try.mixed ok1 hx he (h0_sim _ W h4) hfr (h0_wf W) hargs).2 none 0
  have h2 : CallsIn Fence.wide 0 Go.Proofs.Tryz.prog g vs.toArray W _ := h1
  refine (callsIn_wide.1 h2).mono ?_
  intro e W' q
  cases e with
  | returned x =>
    obtain ⟨R', l, f, _, hc⟩ := q
    refine ⟨by simp [conc] at hc; rw [hc], f.io.1, f.io.2.1, f.io.2.2, f.size, fun c hlt => f.frame c hlt fun b sz hb hl => ?_⟩
    obtain ⟨l', e1, e2⟩ := hxx.log
    have e3 := f.log
    rw [e1] at e3
    have : l' = l := List.append_cancel_right e3
    subst this
    have := e2 b hl
    have hn : (h0 W).next = W.heap.size := rfl
    simp only [R0] at hb
    split at hb <;> simp only [Option.some.injEq, Prod.mk.injEq, reduceCtorEq] at hb
    omega
  | _ => exact q.elim
theorem own : ownKnob Go.Proofs.Tryz.prog.godebug = none := by kernel_rfl
theorem trodAll_stays {H : Type} {enc : TypeId × Value → H} {P : Program} {base : Nat} (hl : laidOutB P = true) {W W' : World} {sp : Nat → Bool} : ∀ {ts : List TypeId} {vs : List Value} {ds : List (DataW H)} {ps : List MemPlace},
    (∀ t ∈ ts, P.readableRec t = true ∧ t < P.types.size) → DataW.TrodAll enc P W base (fun _ => true) true ts vs ds ps → (∀ p ∈ ps, W.sameAt W' p) → (∀ p ∈ ps, sp p.block = true) → DataW.TrodAll enc P W' base sp true ts vs ds ps
  | [], _, _, _, _, h, _, _ => by
    obtain ⟨rfl, rfl, rfl⟩ := trodAll_nil h
    exact h
  | t :: ts, _, _, _, ht, h, h1, h2 => by
    obtain ⟨v, vs1, d, ds1, a, b, rfl, rfl, rfl, q1, q2⟩ := trodAll_cons h
    have := ht t (by simp)
    exact ⟨a, b, WideElems.Trod_stays hl this.1 this.2 q1 (fun p hp => h1 p (List.mem_append_left _ hp)) (fun p hp => h2 p (List.mem_append_left _ hp)),
      trodAll_stays hl (fun t ht' => ht t (by simp [ht'])) q2 (fun p hp => h1 p (List.mem_append_right _ hp)) (fun p hp => h2 p (List.mem_append_right _ hp)), rfl⟩
theorem trodAll_length {H : Type} {enc : TypeId × Value → H} {P : Program} {w : World} {base : Nat} {spare : Nat → Bool} {held : Bool} : ∀ {ts : List TypeId} {vs : List Value} {ds : List (DataW H)} {ps : List MemPlace},
    DataW.TrodAll enc P w base spare held ts vs ds ps → ds.length = ts.length
  | [], _, _, _, h => by
    obtain ⟨_, rfl, _⟩ := trodAll_nil h
    rfl
  | t :: ts, _, _, _, h => by
    obtain ⟨v, vs1, d, ds1, a, b, rfl, rfl, rfl, q1, q2⟩ := trodAll_cons h
    simp [trodAll_length q2]
noncomputable def readable (l : List TypeId) : Bool := l.all fun t => Go.Proofs.Tryz.prog.readableRec t && decide (t < Go.Proofs.Tryz.prog.types.size)
theorem post_true {H : Type} {enc : TypeId × Value → H} {f : Func} {s : ChangeSpec} {W W' : World} {args : Array Value} {bt : TypeId} {ds gs : List (DataW H)} {before : List MemPlace}
    (hW : DataW.Whole enc Go.Proofs.Tryz.prog f.params.toList s.vars false W args.toList ds gs before) (hv : s.vars = []) (hs : s.fn H ds = { results := [.lit (.bool true)], args := ds })
    (hr : f.resultTypes = #[bt]) (hbt : Go.Proofs.Tryz.prog.underlying bt = some .bool) (hp : readable f.params.toList = true) (hb : Below W.heap.size W W') :
    s.post enc Go.Proofs.Tryz.prog f false true false false W args (.bool true) W' := by
  have hlt := hW.lt
  have hW' := hW
  obtain ⟨p, q, hA, hV, rfl, hfz, hnd⟩ := hW
  rw [hv] at hV
  have hV0 := hV
  obtain ⟨rfl, rfl⟩ := trodVars_none hV
  have hread : ∀ t ∈ f.params.toList, Go.Proofs.Tryz.prog.readableRec t = true ∧ t < Go.Proofs.Tryz.prog.types.size := by
    intro t ht
    have := List.all_eq_true.1 hp t ht
    simpa using this
  have hlt' : ∀ x ∈ p, x.block < W.heap.size := fun x hx => hlt x (by simp [hx])
  have e : s.fn H (ds ++ []) = { results := [.lit (.bool true)], args := ds } := by simpa using hs
  refine ⟨ds, [], p ++ [], [], p, [], hW', ?_, ?_, ?_, hb.frame _, fun ha => by cases ha⟩
  · rw [e, hr]
    exact trodAll_mk1 (shut_bool hbt true)
  · rw [e]
    exact trodAll_stays laid hread hA (fun x hx => hb.same (hlt' x hx)) (fun x hx => by simpa using hlt' x hx)
  · rw [e, hv]
    exact hV0
theorem tab_of {W : World} (hL : laidMetH P9 laidList W) : tabBlk < W.heap.size ∧ isTab ((h0 W).get tabBlk) = true := by
  have hL : laidMet P9 laidList W := hL
  have hL := laidMet.filter (fun x => x.1 == "internal/strconv.uint64pow10") hL
  have hl : laidList.filter (fun x => x.1 == "internal/strconv.uint64pow10") = [("internal/strconv.uint64pow10", Lib.tabData .u64 Lib.pow10Tab)] := by kernel_rfl
  rw [hl] at hL
  have ht : Lib.TabIs P9 W "internal/strconv.uint64pow10" .u64 Lib.pow10Tab := Lib.tabIs_of_head (g := tabBlk) (t := 349) (n := 20) (e := 72) (by kernel_rfl) (by kernel_rfl) (by kernel_rfl) (by kernel_rfl) (by kernel_rfl) (by kernel_rfl) hL
  have hg : P9.globalNamed "internal/strconv.uint64pow10" = some tabBlk := by kernel_rfl
  unfold Lib.TabIs World.var? at ht
  rw [hg] at ht
  simp only [Option.bind_some] at ht
  split at ht <;> simp only [Option.some.injEq, reduceCtorEq] at ht
  rename_i cs t f ho
  have hlt : tabBlk < W.heap.size := by
    rcases Nat.lt_or_ge tabBlk W.heap.size with h | h
    · exact h
    · rw [Array.getElem?_eq_none h] at ho; cases ho
  refine ⟨hlt, ?_⟩
  rw [h0_get, if_pos hlt, ho, ht]
  rfl
theorem es_star : "*errors.errorString" = "*" ++ "errors.errorString" := by decide
theorem es_row (u : TypeId) (h : P9.typeName? 3 u = some "*errors.errorString") : u = esPtrT :=
  typeName_ptr_named (nm := "errors.errorString") (by rw [← es_star]; kernel_rfl) (by kernel_rfl) (by decide) u (by rw [← es_star]; exact h)
theorem err_of {W : World} {n : String} {g : Nat} {text : List UInt8} (hL : laidMet P9 [(n, .iface "*errors.errorString" (.ptr (.agg [.lit (.string text)])))] W) (hg : P9.globalNamed n = some g) (ht : (P9.globals[g]?).map (·.type) = some errT) :
    g < W.heap.size ∧ isErr ((h0 W).get g) = true := by
  obtain ⟨a, s, hv, hc, _, _⟩ := laid_sentinel (ms := #[("Error", sigT)]) (f := ⟨"s", strT, 0, false, "", "errors", 0⟩) hL hg ht (by kernel_rfl) es_row (tp := esPtrT) (te := esT) (ts := strT) (by kernel_rfl) (by kernel_rfl) rfl rfl (by kernel_rfl) (by kernel_rfl) (by kernel_rfl)
  unfold World.var? at hv
  rw [hg] at hv
  simp only [Option.bind_some] at hv
  split at hv <;> simp only [Option.some.injEq, reduceCtorEq] at hv
  rename_i cs t f ho
  have hlt : g < W.heap.size := by
    rcases Nat.lt_or_ge g W.heap.size with h | h
    · exact h
    · rw [Array.getElem?_eq_none h] at ho; cases ho
  refine ⟨hlt, ?_⟩
  unfold World.cell? at hc
  split at hc <;> try simp at hc
  rename_i arr e1 f1 ho1
  obtain ⟨b, o, sp⟩ := a
  obtain rfl : sp = none := hc.1
  have hb : b < W.heap.size := by
    rcases Nat.lt_or_ge b W.heap.size with h | h
    · exact h
    · rw [Array.getElem?_eq_none h] at ho1; cases ho1
  rw [h0_get, if_pos hlt, ho, hv]
  show isErr (some (.ro [absV W.heap.size (.iface esPtrT (.pointer (some ⟨b, o, none⟩)))])) = true
  have : absV W.heap.size (.iface esPtrT (.pointer (some ⟨b, o, none⟩))) = some (.ifc esPtrT (.p b o)) := if_pos hb
  rw [this]
  rfl
def isLib (h : H) : Bool := isTab (h.get tabBlk) && (isErr (h.get synBlk) && isErr (h.get rngBlk))
theorem lib_of {W : World} (hL : laidMetH P9 laidList W) : (∀ b ∈ fixB, b < W.heap.size) ∧ isLib (h0 W) = true := by
  obtain ⟨t1, t2⟩ := tab_of hL
  have hL : laidMet P9 laidList W := hL
  have l1 := laidMet.filter (fun x => x.1 == "strconv.ErrSyntax") hL
  have e1 : laidList.filter (fun x => x.1 == "strconv.ErrSyntax") = [("strconv.ErrSyntax", .iface "*errors.errorString" (.ptr (.agg [.lit (.string [105, 110, 118, 97, 108, 105, 100, 32, 115, 121, 110, 116, 97, 120])])))] := by kernel_rfl
  rw [e1] at l1
  have l2 := laidMet.filter (fun x => x.1 == "strconv.ErrRange") hL
  have e2 : laidList.filter (fun x => x.1 == "strconv.ErrRange") = [("strconv.ErrRange", .iface "*errors.errorString" (.ptr (.agg [.lit (.string [118, 97, 108, 117, 101, 32, 111, 117, 116, 32, 111, 102, 32, 114, 97, 110, 103, 101])])))] := by kernel_rfl
  rw [e2] at l2
  obtain ⟨s1, s2⟩ := err_of (g := synBlk) l1 (by kernel_rfl) (by kernel_rfl)
  obtain ⟨r1, r2⟩ := err_of (g := rngBlk) l2 (by kernel_rfl) (by kernel_rfl)
  refine ⟨fun b hb => ?_, by unfold isLib; rw [t2, s2, r2]; rfl⟩
  simp only [fixB, List.mem_cons, List.not_mem_nil, or_false] at hb
  rcases hb with rfl | rfl | rfl <;> assumption
theorem row_laid {g : Nat} {fn : Func} {s : ChangeSpec} {bt : TypeId} {args0 : Array Value} (hx : Try.tb1.ext g = false) (hfn : Go.Proofs.Tryz.prog.funcs[g]? = some fn) (hv : s.vars = [])
    (hs : ∀ (H : Type) (ds : List (DataW H)), ds.length = fn.params.size → s.fn H ds = { results := [.lit (.bool true)], args := ds })
    (hr : fn.resultTypes = #[bt]) (hbt : Go.Proofs.Tryz.prog.underlying bt = some .bool) (hp : readable fn.params.toList = true) (hni : Go.Proofs.Tryz.checked.prog.inits.idxOf? g = none)
    (os : Os) (started : os.Started) (H : Type) (enc : TypeId × Value → H)
    (w1 : ((laidWorld os).forCall (fun _ _ => 0) ⟨#[], args0, []⟩).variablesB P9 = true)
    (w2 : (((laidWorld os).forCall (fun _ _ => 0) ⟨#[], args0, []⟩).heap.toList.drop P9.globals.size).take ((begin P9 (fun _ _ => 0) default).world.heap.size - P9.globals.size) = (begin P9 (fun _ _ => 0) default).world.heap.toList.drop P9.globals.size)
    (w3 : Input.okWideB P9 ((laidWorld os).forCall (fun _ _ => 0) ⟨#[], args0, []⟩) g ⟨#[], args0, []⟩ = true)
    (w4 : s.preB enc P9 fn [] false ((laidWorld os).forCall (fun _ _ => 0) ⟨#[], args0, []⟩).memory args0 8 = true)
    (w5 : s.sizedB enc P9 fn false ((laidWorld os).forCall (fun _ _ => 0) ⟨#[], args0, []⟩).memory args0 8 = true)
    (hrun : ∀ (W : World) (args : List Value) (ds : List (DataW H)) (ps : List MemPlace) (base : Nat), (∀ (j : Nat) t v, fn.params[j]? = some t → args[j]? = some v → Value.okWide Go.Proofs.Tryz.prog W .any base t v) →
      DataW.TrodAll enc Go.Proofs.Tryz.prog W 0 (fun _ => true) true fn.params.toList args ds ps →
      (DataW.weightsEach Go.Proofs.Tryz.prog fn.params.toList ds).all (· ≤ reachBytes) = true → isLib (h0 W) = true →
      ∃ us, concL (R0 W) us = some args ∧ WC Try.tb1 (.fn g [] []) us (h0 W) fun v h' => v = .b true ∧ Ext (h0 W) h') :
    ReturnsInHanded {} Go.Proofs.Tryz.checked os g .any (fun w args => (s.pre enc P9 fn [] false w args ∧ laidMetH P9 laidList w) ∧ sizedMet enc P9 fn (OpenSpec.ofChange s) false w args) (s.post enc Go.Proofs.Tryz.checked.prog fn false true false false) := by
  refine returnsInHanded_of_change_and (C := Go.Proofs.Tryz.checked) (X := fun w _ => laidMetH P9 laidList w) (fun _ _ _ hh h => h.of_heap hh) own started hni hfn
    (ChangeSpec.witness_at (enc := enc) (C := Go.Proofs.Tryz.checked) (os := os) (X := fun w _ => laidMetH P9 laidList w) false (laidWorld os) args0 8 rfl w1 w2 w3 w4 w5 (laid_reads os args0)) ?_
  intro W base args ds gs before hval hW _ hwt hL _
  have hW' := hW
  obtain ⟨p, q, hA, hV, rfl, hfz, hnd⟩ := hW
  rw [hv] at hV
  obtain ⟨rfl, rfl⟩ := trodVars_none hV
  have hw2 : (DataW.weightsEach Go.Proofs.Tryz.prog fn.params.toList ds).all (· ≤ reachBytes) = true := by
    have e : s.plain.varTypes Go.Proofs.Tryz.checked.prog = [] := by simp [DataSpec.varTypes, ChangeSpec.plain, hv]
    have h := hwt
    rw [e, List.append_nil, List.append_nil] at h
    exact h
  obtain ⟨us, h1, h2⟩ := hrun W args.toList ds p base (fun j t v h1 h2 => hval j t v h1 (by simpa using h2)) hA hw2 (lib_of hL).2
  have hcall := lift_true (lib_of hL).1 hx h1 h2
  rw [Array.toArray_toList] at hcall
  refine hcall.mono ?_
  rintro e W' ⟨rfl, hb⟩
  exact ⟨_, rfl, post_true hW' hv (hs H ds (by simpa using trodAll_length hA)) hr hbt hp hb⟩
end Go.Air
set_option maxRecDepth 100000
namespace Go.Air
open Go.ChangeShapes Go.WideShapes Go.ChangeAt Go.RowKit Go.Air.Try
variable {W : World}
theorem cell_inv {a : Addr} {x : Value} (h : W.cell? a = some x) : a.spot = none ∧ ∃ arr e f, W.heap[a.block]? = some (.cells arr e f) ∧ arr.toList[a.off]? = some x := by
  unfold World.cell? at h
  split at h <;> try simp at h
  rename_i arr e f ho
  exact ⟨h.1, arr, e, f, ho, by simpa using h.2⟩
theorem arg_of {a : Addr} {len cap esz : Nat} {cs : List V} (hlen : cs.length = len * esz) (hc : 0 < cap) (hz : 0 < esz) (hle : len ≤ cap) {x0 : Value} (hx0 : W.cell? (a.add 0) = some x0)
    (hcell : ∀ i u, cs[i]? = some u → ∃ x, W.cell? (a.add i) = some x ∧ absV W.heap.size x = some u) :
    ∃ v, absV W.heap.size (.slice (some a) len cap) = some v ∧ conc (R0 W) v = some (.slice (some a) len cap) ∧ Arg esz (h0 W) v len cs := by
  obtain ⟨b, o, s⟩ := a
  obtain ⟨hs, arr, e, f, ho, _⟩ := cell_inv hx0
  obtain rfl : s = none := by simpa [Addr.add] using hs
  simp only [add_spot] at hcell ho
  have hb : b < W.heap.size := by
    rcases Nat.lt_or_ge b W.heap.size with h | h
    · exact h
    · rw [Array.getElem?_eq_none h] at ho; cases ho
  have hv : absV W.heap.size (.slice (some ⟨b, o, none⟩) len cap) = some (.sl b o len cap none) := by
    simp only [absV]
    rw [if_pos ⟨hb, hle, hc⟩]
  refine ⟨_, hv, absV_conc hv, .inr ⟨b, o, cap, _, rfl, hle, hb, by rw [h0_get, if_pos hb, ho]; rfl, ?_⟩⟩
  have hcell' : ∀ (i : Nat) (u : V), cs[i]? = some u → ∃ x, arr.toList[o + i]? = some x ∧ absV W.heap.size x = some u := by
    intro i u hi
    obtain ⟨x, h1, h2⟩ := hcell i u hi
    obtain ⟨_, arr', e', f', q1, q2⟩ := cell_inv h1
    simp only at q1 q2
    rw [ho] at q1
    cases q1
    exact ⟨x, q2, h2⟩
  simp only [Blk.rd]
  refine cutO_of hlen (fun i u hi => ?_) ?_
  · obtain ⟨x, h1, h2⟩ := hcell' i u hi
    rw [List.getElem?_map, h1, Option.map_some, h2]
  · by_cases h0 : len * esz = 0
    · have hx : o ≤ arr.toList.length := by
        obtain ⟨_, arr', e', f', q1, q2⟩ := cell_inv hx0
        simp only [add_spot] at q1 q2
        rw [ho] at q1
        cases q1
        have := (List.getElem?_eq_some_iff.1 q2).1
        simp only [Nat.add_zero] at this
        omega
      simp only [List.length_map]; omega
    · have hlt : len * esz - 1 < cs.length := by omega
      obtain ⟨x, h1, _⟩ := hcell' (len * esz - 1) cs[len * esz - 1] (List.getElem?_eq_getElem hlt)
      have := (List.getElem?_eq_some_iff.1 h1).1
      simp only [List.length_map]; omega
end Go.Air
set_option maxRecDepth 100000
namespace Go.Air
open Go.ChangeShapes Go.WideShapes Go.ChangeAt Go.RowKit Go.Air.Try
variable {W : World}
theorem tb4_of (h : isLib (h0 W) = true) : Tb4 (h0 W) := by
  unfold isLib at h
  simp only [Bool.and_eq_true] at h
  have lt : ∀ b, (h0 W).get b ≠ none → b < W.heap.size := by
    intro b hb
    rw [h0_get] at hb
    split at hb
    · rename_i hl; exact hl
    · exact (hb rfl).elim
  have h1 : tabBlk < W.heap.size := lt _ fun e => by rw [e] at h; cases h.1
  have h2 : synBlk < W.heap.size := lt _ fun e => by rw [e] at h; cases h.2.1
  have h3 : rngBlk < W.heap.size := lt _ fun e => by rw [e] at h; cases h.2.2
  have key : topBlk ≤ (h0 W).next := by
    show topBlk ≤ W.heap.size
    unfold topBlk; omega
  exact ⟨key, h.1, h.2.1, h.2.2⟩
theorem wf_i64 {x : Int} (h : (Lit.int .i64 x).wf = true) : I64 x := by
  simp only [Lit.wf, Bool.and_eq_true, decide_eq_true_eq] at h
  simp [IntKind.min, IntKind.max, IntKind.signed, IntKind.bits] at h
  unfold I64; omega
theorem conc_bytes (R : Emb) (b : ByteArray) : conc R (.s (b.data.toList.map UInt8.toNat)) = some (.string b) ∧ ∀ c ∈ b.data.toList.map UInt8.toNat, c < 256 := by
  have hlt : ∀ c ∈ b.data.toList.map UInt8.toNat, c < 256 := by
    intro c hc
    obtain ⟨x, _, rfl⟩ := List.mem_map.1 hc
    exact x.toNat_lt
  have h1 : (b.data.toList.map UInt8.toNat).all (Nat.blt · 256) = true := by
    rw [List.all_eq_true]
    intro c hc
    show Nat.blt c 256 = true
    rw [Nat.blt_eq]; exact hlt c hc
  have h2 : byteArr (b.data.toList.map UInt8.toNat) = b := by
    unfold byteArr
    rw [List.map_map]
    have : (UInt8.ofNat ∘ UInt8.toNat) = id := by funext x; simp
    rw [this]
    simp
  exact ⟨by simp only [conc, h1, if_true, h2], hlt⟩
def plainV : V → Bool
  | .b _ | .i _ _ | .s _ => true
  | _ => false
theorem abs_of_conc {R : Emb} {n : Nat} {u : V} {x : Value} (hp : plainV u = true) (h : conc R u = some x) : absV n x = some u := by
  cases u <;> simp only [plainV, Bool.false_eq_true] at hp
  · simp only [conc, Option.some.injEq] at h; subst h; rfl
  · simp only [conc, Option.some.injEq] at h; subst h; rfl
  · rename_i l
    simp only [conc] at h
    split at h
    · rename_i hl
      cases h
      simp only [absV]
      congr 2
      unfold byteArr
      simp only [List.toList_toArray, List.map_map]
      rw [List.all_eq_true] at hl
      conv => rhs; rw [← List.map_id l]
      apply List.map_congr_left
      intro c hc
      have := hl c hc
      rw [Nat.blt_eq] at this
      simp [UInt8.toNat_ofNat, Nat.mod_eq_of_lt this]
    · cases h
theorem add_two (a : Addr) (m k : Nat) : (a.add m).add k = a.add (m + k) := by
  by_cases hm : m = 0
  · subst hm; simp [Addr.add]
  · by_cases hk : k = 0
    · subst hk; simp [Addr.add]
    · simp [Addr.add, hm, hk, Nat.add_assoc]
theorem open_strA {H : Type} {enc : TypeId × Value → H} {t : TypeId} {base : Nat} {v : Value} {d : DataW H} {p : List MemPlace} (ht : Go.Proofs.Tryz.prog.underlying t = some .string)
    (hval : Value.okWide Go.Proofs.Tryz.prog W .any base t v) (hd : DataW.Trod enc Go.Proofs.Tryz.prog W 0 (fun _ => true) true t v d p) :
    ∃ l : List Nat, (∀ c ∈ l, c < 256) ∧ l.length ≤ 9223372036854775807 ∧ ∀ R, conc R (.s l) = some v := by
  obtain ⟨b, rfl⟩ := okWide_string ht hval
  obtain ⟨fuel, hf⟩ := hd
  obtain ⟨z, e1, _, w⟩ := DataW.trod_string ht hf
  simp [Value.cells] at e1
  subst e1
  refine ⟨b.data.toList.map UInt8.toNat, (conc_bytes (fun _ => none) b).2, ?_, fun R => (conc_bytes R b).1⟩
  simp only [List.length_map, Array.length_toList]
  exact w
end Go.Air
set_option maxRecDepth 100000
namespace Go.Air
open Go.ChangeShapes Go.WideShapes Go.ChangeAt Go.RowKit Go.Air.Try
variable {W : World}
theorem open_intsF {H : Type} {enc : TypeId × Value → H} {k : IntKind} {t e : TypeId} {fuel : Nat} {cs : List Value} {y : DataW H × List MemPlace} (ht : Go.Proofs.Tryz.prog.underlying t = some (.slice e)) (he : Go.Proofs.Tryz.prog.underlying e = some (.int k))
    (hc : Go.Proofs.Tryz.prog.cellsOf e = 1) (hf : DataW.trod enc Go.Proofs.Tryz.prog W 0 (fun _ => true) true fuel t cs = some y) :
    ∃ w u, ∃ xs : List Int, cs = [w] ∧ conc (R0 W) u = some w ∧ Sl 1 (h0 W) u xs.length (xs.map (V.i k)) ∧ ∀ x ∈ xs, (Lit.int k x).wf = true := by
  rcases open_ints ht he hc hf with ⟨hcs, _⟩ | ⟨a, len, cap, zs, hcs, _, hl, hm, hz, hx, hcell, hw⟩
  · exact ⟨_, .sn, [], hcs, by simp [conc], .inl ⟨rfl, rfl, .inl rfl⟩, by simp⟩
  · simp only [if_true] at hz
    by_cases h0' : cap = 0
    · subst h0'
      obtain rfl : len = 0 := by omega
      obtain ⟨b, o, s⟩ := a
      exact ⟨_, .se ⟨b, o, s⟩, [], hcs, by simp [conc], .inl ⟨rfl, rfl, .inr ⟨_, rfl⟩⟩, by simp⟩
    · obtain ⟨u, q1, q2, q3⟩ := arg_of (W := W) (a := a) (len := len) (cap := cap) (esz := 1) (cs := (zs.take len).map (V.i k)) (by simp; omega) (by omega) (by omega) hl (hcell 0 (by omega)) (by
        intro i u hi
        rw [List.getElem?_map, Option.map_eq_some_iff] at hi
        obtain ⟨x, h1, rfl⟩ := hi
        have hlt := (List.getElem?_eq_some_iff.1 h1).1
        simp at hlt
        refine ⟨_, hcell i (by omega), ?_⟩
        have : zs.getD i 0 = x := by
          rw [List.getElem?_take_of_lt (by omega)] at h1
          rw [List.getD_eq_getElem?_getD, h1]; rfl
        rw [this]
        rfl)
      have hlen : (zs.take len).length = len := by simp; omega
      refine ⟨_, u, zs.take len, hcs, q2, ?_, fun x hx => hw x (List.mem_of_mem_take hx)⟩
      rw [hlen]
      exact q3.sl
theorem open_gstC {H : Type} {enc : TypeId × Value → H} {fuel : Nat} {cs : List Value} {x : DataW H × List MemPlace} (h : DataW.trod enc Go.Proofs.Tryz.prog W 0 (fun _ => true) true fuel 50 cs = some x) :
    ∃ p : Int × Int, (I64 p.1 ∧ I64 p.2) ∧ ∀ R, concL R [I p.1, I p.2] = some cs := by
  have c84 : Go.Proofs.Tryz.prog.cellsOf 50 = 2 := by kernel_rfl
  have c3 : Go.Proofs.Tryz.prog.cellsOf 3 = 1 := by kernel_rfl
  have u3 : Go.Proofs.Tryz.prog.underlying 3 = some (.int .i64) := by kernel_rfl
  obtain ⟨xs, n, _, _, hl, hlen, hf⟩ := DataW.trod_struct Go.Proofs.Tryz.underlying50 h
  rw [c84] at hl
  have hlen : xs.length = 2 := hlen
  match xs, hlen with
  | [y0, y1], _ =>
    have f0 : DataW.trod enc Go.Proofs.Tryz.prog W 0 (fun _ => true) true n 3 ((cs.drop 0).take (Go.Proofs.Tryz.prog.cellsOf 3)) = some y0 := hf 0 _ rfl
    have f1 : DataW.trod enc Go.Proofs.Tryz.prog W 0 (fun _ => true) true n 3 ((cs.drop 1).take (Go.Proofs.Tryz.prog.cellsOf 3)) = some y1 := hf 1 _ rfl
    rw [c3] at f0 f1
    obtain ⟨n0, e0, _, w0⟩ := DataW.trod_int u3 f0
    obtain ⟨n1, e1, _, w1⟩ := DataW.trod_int u3 f1
    refine ⟨(n0, n1), ⟨wf_i64 w0, wf_i64 w1⟩, fun R => ?_⟩
    have hcs : cs = [.int .i64 n0, .int .i64 n1] := by
      match cs, hl with
      | [c0, c1], _ =>
        simp at e0 e1
        rw [e0, e1]
    rw [hcs]
    rfl
theorem gst_plain (g : List (Int × Int)) : ∀ u ∈ cells2 g, plainV u = true := by
  intro u hu
  obtain ⟨p, _, hp⟩ := List.mem_flatMap.1 hu
  simp only [List.mem_cons, List.not_mem_nil, or_false] at hp
  rcases hp with rfl | rfl <;> rfl
theorem open_gstsF {H : Type} {enc : TypeId × Value → H} {fuel : Nat} {cs : List Value} {y : DataW H × List MemPlace} (hf : DataW.trod enc Go.Proofs.Tryz.prog W 0 (fun _ => true) true fuel 24 cs = some y) :
    ∃ w u, ∃ gs : List (Int × Int), cs = [w] ∧ conc (R0 W) u = some w ∧ Gsts (h0 W) u gs ∧ ∀ p ∈ gs, I64 p.1 ∧ I64 p.2 := by
  have u40 : Go.Proofs.Tryz.prog.underlying 24 = some (.slice 50) := by kernel_rfl
  have c84 : Go.Proofs.Tryz.prog.cellsOf 50 = 2 := by kernel_rfl
  rcases DataW.trod_slice u40 hf with ⟨hcs, hx⟩ | ⟨a, len, cap, elems, rest, n, _, hcs, _, _, hl, hm, hel, hall, hrest, _⟩
  · exact ⟨_, .sn, [], hcs, by simp [conc], .inl ⟨rfl, rfl, .inl rfl⟩, by simp⟩
  · by_cases h0' : cap = 0
    · subst h0'
      obtain rfl : len = 0 := by omega
      obtain ⟨b, o, s⟩ := a
      exact ⟨_, .se ⟨b, o, s⟩, [], hcs, by simp [conc], .inl ⟨rfl, rfl, .inr ⟨_, rfl⟩⟩, by simp⟩
    · by_cases hl0 : len = 0
      · subst hl0
        have h1 := (hrest rfl).2 0 (by omega)
        rw [c84, List.getElem?_eq_getElem (by have := (hrest rfl).1; omega)] at h1
        obtain ⟨cs', h2, _⟩ := Option.bind_eq_some_iff.1 h1
        obtain ⟨_, h3, h4⟩ := World.cells?_some h2
        have h5 := h4 0 (by omega)
        rw [List.getElem?_eq_getElem (by omega)] at h5
        obtain ⟨u, q1, q2, q3⟩ := arg_of (W := W) (a := a) (len := 0) (cap := cap) (esz := 2) (cs := []) rfl (by omega) (by omega) hl (x0 := cs'[0]) (by simpa [Addr.add] using h5) (by intro i u hi; simp at hi)
        exact ⟨_, u, [], hcs, q2, q3.sl, by simp⟩
      · have each : ∀ i, ∃ p : Int × Int, i < len → (I64 p.1 ∧ I64 p.2) ∧ ∃ cs, W.cells? 0 (a.add (i * 2)) 2 = some cs ∧ concL (R0 W) [I p.1, I p.2] = some cs := by
          intro i
          by_cases hi : i < len
          · have h1 := hall i hi
            rw [c84] at h1
            rw [List.getElem?_eq_getElem (by omega)] at h1
            obtain ⟨cs', h2, h3⟩ := Option.bind_eq_some_iff.1 h1
            obtain ⟨b, h4, h5⟩ := open_gstC h3
            exact ⟨b, fun _ => ⟨h4, cs', h2, h5 _⟩⟩
          · exact ⟨(0, 0), fun h => absurd h hi⟩
        obtain ⟨f, hf'⟩ := Classical.axiomOfChoice each
        have hget : ∀ i, i < len → ((List.range len).map f)[i]? = some (f i) := by intro i hi; simp [hi]
        have hok : ∀ p ∈ (List.range len).map f, I64 p.1 ∧ I64 p.2 := by
          intro b hb
          obtain ⟨i, hi, rfl⟩ := List.mem_map.1 hb
          exact (hf' i (List.mem_range.1 hi)).1
        have hrl := cells2_len ((List.range len).map f)
        have hcell : ∀ i u, (cells2 ((List.range len).map f))[i]? = some u → ∃ x, W.cell? (a.add i) = some x ∧ absV W.heap.size x = some u := by
          intro i u hi
          have hlt : i < len * 2 := by
            have := (List.getElem?_eq_some_iff.1 hi).1
            rw [hrl] at this
            simpa using this
          have hjl : i / 2 < len := by omega
          have hi' : i = i / 2 * 2 + i % 2 := by omega
          have hk : i % 2 < 2 := by omega
          have hi2 : [I (f (i / 2)).1, I (f (i / 2)).2][i % 2]? = some u := by
            obtain ⟨g0, g1⟩ := cells2_get (hget _ hjl)
            rw [hi'] at hi
            rcases Nat.mod_two_eq_zero_or_one i with e | e
            · rw [e] at hi ⊢
              rw [← hi, g0]; rfl
            · rw [e] at hi ⊢
              rw [← hi, g1]; rfl
          obtain ⟨_, cs', h2, h5⟩ := hf' (i / 2) hjl
          obtain ⟨x, h6, h7⟩ := concL_get h5 hi2
          have h8 := (World.cells?_some h2).2.2 (i % 2) hk
          refine ⟨x, ?_, abs_of_conc (gst_plain _ u (List.mem_of_getElem? hi)) h7⟩
          rw [← h6, ← h8]
          have ha : a.add i = (a.add (i / 2 * 2)).add (i % 2) := by
            rw [add_two]
            exact congrArg _ hi'
          rw [ha]
        have hx0 : ∃ x0, W.cell? (a.add 0) = some x0 := by
          have h1 : 0 < (cells2 ((List.range len).map f)).length := by rw [hrl]; simp; omega
          obtain ⟨x, hx, _⟩ := hcell 0 _ (List.getElem?_eq_getElem h1)
          exact ⟨x, hx⟩
        obtain ⟨x0, hx0⟩ := hx0
        obtain ⟨u, q1, q2, q3⟩ := arg_of (W := W) (a := a) (len := len) (cap := cap) (esz := 2) (by rw [hrl]; simp) (by omega) (by omega) hl hx0 hcell
        refine ⟨_, u, (List.range len).map f, hcs, q2, ?_, hok⟩
        have := q3.sl
        unfold Gsts
        simpa using this
theorem open_annA {H : Type} {enc : TypeId × Value → H} {base : Nat} {v : Value} {d : DataW H} {p : List MemPlace} (hval : Value.okWide Go.Proofs.Tryz.prog W .any base 27 v)
    (hd : DataW.Trod enc Go.Proofs.Tryz.prog W 0 (fun _ => true) true 27 v d p) :
    ∃ a : Ann, ∃ gv ov, conc (R0 W) (.agg (a.cells gv ov)) = some v ∧ Gsts (h0 W) gv a.guests ∧ Ints (h0 W) ov a.order ∧ (∀ n ∈ [a.id, a.old, a.passed, a.off, a.moved], I64 n) ∧ (∀ n ∈ [a.host, a.lang, a.lot, a.known, a.day], I64 n) ∧ (∀ p ∈ a.guests, I64 p.1 ∧ I64 p.2) ∧ ∀ n ∈ a.order, I64 n := by
  obtain ⟨arr, rfl, hsz⟩ := okWide_struct Go.Proofs.Tryz.underlying27 hval
  obtain ⟨fuel, h⟩ := hd
  have c43 : Go.Proofs.Tryz.prog.cellsOf 27 = 12 := by kernel_rfl
  have c39 : Go.Proofs.Tryz.prog.cellsOf 23 = 5 := by kernel_rfl
  have c40 : Go.Proofs.Tryz.prog.cellsOf 24 = 1 := by kernel_rfl
  have c41 : Go.Proofs.Tryz.prog.cellsOf 25 = 1 := by kernel_rfl
  have c3 : Go.Proofs.Tryz.prog.cellsOf 3 = 1 := by kernel_rfl
  have u3 : Go.Proofs.Tryz.prog.underlying 3 = some (.int .i64) := by kernel_rfl
  have u41 : Go.Proofs.Tryz.prog.underlying 25 = some (.slice 3) := by kernel_rfl
  have h : DataW.trod enc Go.Proofs.Tryz.prog W 0 (fun _ => true) true fuel 27 arr.toList = some (d, p) := h
  obtain ⟨xs, n, _, _, hl, hlen, hf⟩ := DataW.trod_struct Go.Proofs.Tryz.underlying27 h
  rw [c43] at hl
  have hlen : xs.length = 8 := hlen
  generalize hcs : arr.toList = cs at hl hf
  match cs, hl, xs, hlen with
  | [k0, k1, k2, k3, k4, k5, k6, k7, k8, k9, k10, k11], _, [y0, y1, y2, y3, y4, y5, y6, y7], _ =>
    have f0 := hf 0 _ rfl
    have f1 := hf 1 _ rfl
    have f2 := hf 2 _ rfl
    have f3 := hf 3 _ rfl
    have f4 := hf 4 _ rfl
    have f5 := hf 5 _ rfl
    have f6 := hf 6 _ rfl
    have f7 := hf 7 _ rfl
    have f0 : DataW.trod enc Go.Proofs.Tryz.prog W 0 (fun _ => true) true n 3 [k0] = some y0 := by simpa [c3] using f0
    have f1 : DataW.trod enc Go.Proofs.Tryz.prog W 0 (fun _ => true) true n 23 [k1, k2, k3, k4, k5] = some y1 := by simpa [c39] using f1
    have f2 : DataW.trod enc Go.Proofs.Tryz.prog W 0 (fun _ => true) true n 24 [k6] = some y2 := by simpa [c40] using f2
    have f3 : DataW.trod enc Go.Proofs.Tryz.prog W 0 (fun _ => true) true n 3 [k7] = some y3 := by simpa [c3] using f3
    have f4 : DataW.trod enc Go.Proofs.Tryz.prog W 0 (fun _ => true) true n 3 [k8] = some y4 := by simpa [c3] using f4
    have f5 : DataW.trod enc Go.Proofs.Tryz.prog W 0 (fun _ => true) true n 25 [k9] = some y5 := by simpa [c41] using f5
    have f6 : DataW.trod enc Go.Proofs.Tryz.prog W 0 (fun _ => true) true n 3 [k10] = some y6 := by simpa [c3] using f6
    have f7 : DataW.trod enc Go.Proofs.Tryz.prog W 0 (fun _ => true) true n 3 [k11] = some y7 := by simpa [c3] using f7
    obtain ⟨n0, e0, _, w0⟩ := DataW.trod_int u3 f0
    obtain ⟨n3, e3, _, w3⟩ := DataW.trod_int u3 f3
    obtain ⟨n4, e4, _, w4⟩ := DataW.trod_int u3 f4
    obtain ⟨n6, e6, _, w6⟩ := DataW.trod_int u3 f6
    obtain ⟨n7, e7, _, w7⟩ := DataW.trod_int u3 f7
    obtain ⟨gw, gv, gs, e2, g1, g2, g3⟩ := open_gstsF f2
    obtain ⟨ow, ov, os, e5, o1, o2, o3⟩ := open_intsF u41 u3 c3 f5
    obtain ⟨zs, m, _, _, _, hzl, hz⟩ := DataW.trod_struct Go.Proofs.Tryz.underlying23 f1
    have hzl : zs.length = 5 := hzl
    match zs, hzl with
    | [z0, z1, z2, z3, z4], _ =>
      have s0 := hz 0 _ rfl
      have s1 := hz 1 _ rfl
      have s2 := hz 2 _ rfl
      have s3 := hz 3 _ rfl
      have s4 := hz 4 _ rfl
      have s0 : DataW.trod enc Go.Proofs.Tryz.prog W 0 (fun _ => true) true m 3 [k1] = some z0 := by simpa [c3] using s0
      have s1 : DataW.trod enc Go.Proofs.Tryz.prog W 0 (fun _ => true) true m 3 [k2] = some z1 := by simpa [c3] using s1
      have s2 : DataW.trod enc Go.Proofs.Tryz.prog W 0 (fun _ => true) true m 3 [k3] = some z2 := by simpa [c3] using s2
      have s3 : DataW.trod enc Go.Proofs.Tryz.prog W 0 (fun _ => true) true m 3 [k4] = some z3 := by simpa [c3] using s3
      have s4 : DataW.trod enc Go.Proofs.Tryz.prog W 0 (fun _ => true) true m 3 [k5] = some z4 := by simpa [c3] using s4
      obtain ⟨x1, d1, _, v1⟩ := DataW.trod_int u3 s0
      obtain ⟨x2, d2, _, v2⟩ := DataW.trod_int u3 s1
      obtain ⟨x3, d3, _, v3⟩ := DataW.trod_int u3 s2
      obtain ⟨x4, d4, _, v4⟩ := DataW.trod_int u3 s3
      obtain ⟨x5, d5, _, v5⟩ := DataW.trod_int u3 s4
      simp only [List.cons.injEq, and_true] at e0 e2 e3 e4 e5 e6 e7 d1 d2 d3 d4 d5
      subst e0 e2 e3 e4 e5 e6 e7 d1 d2 d3 d4 d5
      refine ⟨⟨n0, x1, x2, x3, x4, x5, gs, n3, n4, os, n6, n7⟩, gv, ov, ?_, g2, o2, ?_, ?_, g3, fun x hx => wf_i64 (o3 x hx)⟩
      · have hi : ∀ (R : Emb) (z : Int), conc R (I z) = some (.int .i64 z) := fun _ _ => rfl
        have : concL (R0 W) (Ann.cells ⟨n0, x1, x2, x3, x4, x5, gs, n3, n4, os, n6, n7⟩ gv ov) = some arr.toList := by
          rw [hcs]
          simp [Ann.cells, concL, hi, g1, o1]
        simp only [conc, this]
      · simp only [List.mem_cons, List.not_mem_nil, or_false, forall_eq_or_imp, forall_eq]
        exact ⟨wf_i64 w0, wf_i64 w3, wf_i64 w4, wf_i64 w6, wf_i64 w7⟩
      · simp only [List.mem_cons, List.not_mem_nil, or_false, forall_eq_or_imp, forall_eq]
        exact ⟨wf_i64 v1, wf_i64 v2, wf_i64 v3, wf_i64 v4, wf_i64 v5⟩
end Go.Air
