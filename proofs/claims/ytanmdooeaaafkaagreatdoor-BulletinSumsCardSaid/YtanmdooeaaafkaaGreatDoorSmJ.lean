/-
  A part of the proof of: The row of BulletinSums and its tied card, out of the lifted form.
-/
import Derived.Test.YtanmdooeaaafkaaGreatDoorRows
import Derived.ProofKit
import Derived.HandedShaped
import Derived.Lib.LaidTab
import Derived.LaidSub
import Derived.Test.YtanmdooeaaafkaaGreatDoorSmG
import Derived.Test.YtanmdooeaaafkaaGreatDoorSmI
set_option linter.unusedSectionVars false
set_option linter.unusedVariables false
set_option linter.unusedSimpArgs false
set_option maxRecDepth 100000
namespace Go.Air
open Go.ChangeShapes Go.WideShapes Go.ChangeAt Go.RowKit
def absV (n : Nat) : Value → Option V
  | .int k i => some (.i k i)
  | .bool b => some (.b b)
  | .string b => some (.s (b.data.toList.map UInt8.toNat))
  | .slice none 0 0 => some .sn
  | .slice (some ⟨b, o, none⟩) l c => if b < n ∧ l ≤ c ∧ 0 < c then some (.sl b o l c none) else if l = 0 ∧ c = 0 then some (.se ⟨b, o, none⟩) else none
  | .slice (some ⟨b, o, some s⟩) l c => if l = 0 ∧ c = 0 then some (.se ⟨b, o, some s⟩) else none
  | _ => none
def R0 (w : World) : Emb := fun b => if b < w.heap.size then some (b, 0) else none
theorem absV_conc {w : World} {v : Value} {u : V} (h : absV w.heap.size v = some u) : conc (R0 w) u = some v := by
  unfold absV at h
  split at h
  · cases h; simp [conc]
  · cases h; simp [conc]
  · rename_i b
    cases h
    have h1 : (b.data.toList.map UInt8.toNat).all (Nat.blt · 256) = true := by
      rw [List.all_map, List.all_eq_true]
      intro x _
      show Nat.blt x.toNat 256 = true
      rw [Nat.blt_eq]
      exact x.toNat_lt
    have h2 : byteArr (b.data.toList.map UInt8.toNat) = b := by
      unfold byteArr
      rw [List.map_map]
      have : (UInt8.ofNat ∘ UInt8.toNat) = id := by funext x; simp
      rw [this]
      simp
    simp only [conc, h1, if_true, h2]
  · cases h; simp [conc]
  · split at h
    · rename_i hc
      cases h
      simp [conc, R0, hc.1]
    · split at h <;> try cases h
      rename_i hc
      obtain ⟨rfl, rfl⟩ := hc
      simp [conc]
  · split at h <;> try cases h
    rename_i hc
    obtain ⟨rfl, rfl⟩ := hc
    simp [conc]
  · cases h
def mkT (f : Nat → Option Blk) : Nat → T Blk
  | 0 => .e
  | n + 1 => (mkT f n).set n (f n)
theorem mkT_get (f : Nat → Option Blk) : ∀ (n b : Nat), (mkT f n).get b = if b < n then f b else none
  | 0, b => by cases b <;> simp [mkT, T.get]
  | n + 1, b => by
    simp only [mkT, T.get_set, mkT_get f n b]
    by_cases h : b = n
    · subst h; simp
    · simp only [if_neg h]
      by_cases h2 : b < n
      · rw [if_pos h2, if_pos (by omega)]
      · rw [if_neg h2, if_neg (by omega)]
def roOf (n : Nat) : Option Obj → Option Blk
  | some (.cells arr _ _) => some (.ro (arr.toList.map (absV n)))
  | _ => none
def h0 (w : World) : H := ⟨w.heap.size, mkT (fun b => roOf w.heap.size w.heap[b]?) w.heap.size, []⟩
theorem h0_get (w : World) (b : Nat) : (h0 w).get b = if b < w.heap.size then roOf w.heap.size w.heap[b]? else none := mkT_get _ _ _
theorem h0_sim (P : Program) (w : World) (h4 : tabBlk < w.heap.size) : Sim P allB (R0 w) (h0 w).get w := by
  refine ⟨?_, ?_, ?_, if_pos h4⟩
  · intro b c sz x _ hb hx
    simp only [R0] at hb
    split at hb <;> simp only [Option.some.injEq, Prod.mk.injEq, reduceCtorEq] at hb
    rename_i hlt
    obtain ⟨rfl, rfl⟩ := hb
    rw [h0_get, if_pos hlt] at hx
    unfold roOf at hx
    split at hx <;> simp only [Option.some.injEq, reduceCtorEq] at hx
    rename_i arr e f ho
    subst hx
    refine ⟨arr, e, f, ho, by simp, fun i v hi => ?_⟩
    rw [List.getElem?_map, Option.map_eq_some_iff] at hi
    obtain ⟨y, h1, h2⟩ := hi
    exact ⟨y, h1, absV_conc h2⟩
  · intro b b' c sz sz' x x' _ _ hb hb' _ _
    simp only [R0] at hb hb'
    split at hb <;> simp only [Option.some.injEq, Prod.mk.injEq, reduceCtorEq] at hb
    split at hb' <;> simp only [Option.some.injEq, Prod.mk.injEq, reduceCtorEq] at hb'
    omega
  · intro b c sz hb
    simp only [R0] at hb
    split at hb <;> simp only [Option.some.injEq, Prod.mk.injEq, reduceCtorEq] at hb
    omega
theorem h0_wf (w : World) : WF (h0 w) := by
  refine ⟨fun b hb => ?_, fun _ hb => by simp [h0] at hb⟩
  have hb : w.heap.size ≤ b := hb
  rw [h0_get, if_neg (by omega)]
theorem lift_true {g : Nat} {args : List V} {vs : List Value} {W : World} (h4 : tabBlk < W.heap.size) (hx : Try.tb1.ext g = false) (hargs : concL (R0 W) args = some vs)
    (hrun : WC Try.tb1 (.fn g [] []) args (h0 W) fun v h' => v = .b true ∧ Ext (h0 W) h') :
    Calls Go.Proofs.Tryz.prog g vs.toArray W fun e W' => e = .returned (.bool true) ∧ Below W.heap.size W W' := by
  obtain ⟨k, r, he, hq⟩ := hrun
  cases r with
  | fail => exact hq.elim
  | pan v h' => exact hq.elim
  | ok v h' =>
  obtain ⟨rfl, hxx⟩ := hq
  have hfr : Fresh (R0 W) (h0 W) h' := fun b hb _ => by
    have hb : W.heap.size ≤ b := hb
    simp only [R0]
    rw [if_neg (by omega)]
  have h1 := (air_fn Try.mixed ok1 hx he (h0_sim _ W h4) hfr (h0_wf W) hargs).2 none 0
  have h2 : CallsIn Fence.wide 0 Go.Proofs.Tryz.prog g vs.toArray W _ := h1
  refine (callsIn_wide.1 h2).mono ?_
  intro e W' q
  cases e with
  | returned x =>
    obtain ⟨R', l, f, _, hc⟩ := q
    refine ⟨by simp [conc] at hc; rw [hc], f.io.1, f.io.2.1, f.io.2.2, f.size, fun c hlt => f.frame c hlt fun b sz hb hl => ?_⟩
    obtain ⟨l', e1, e2⟩ := hxx.log
    have e3 := f.log
    rw [e1] at e3
    have : l' = l := List.append_cancel_right e3
    subst this
    have := e2 b hl
    have hn : (h0 W).next = W.heap.size := rfl
    simp only [R0] at hb
    split at hb <;> simp only [Option.some.injEq, Prod.mk.injEq, reduceCtorEq] at hb
    omega
  | _ => exact q.elim
theorem own : ownKnob Go.Proofs.Tryz.prog.godebug = none := by kernel_rfl
theorem trodAll_stays {H : Type} {enc : TypeId × Value → H} {P : Program} {base : Nat} (hl : laidOutB P = true) {W W' : World} {sp : Nat → Bool} : ∀ {ts : List TypeId} {vs : List Value} {ds : List (DataW H)} {ps : List MemPlace},
    (∀ t ∈ ts, P.readableRec t = true ∧ t < P.types.size) → DataW.TrodAll enc P W base (fun _ => true) true ts vs ds ps → (∀ p ∈ ps, W.sameAt W' p) → (∀ p ∈ ps, sp p.block = true) → DataW.TrodAll enc P W' base sp true ts vs ds ps
  | [], _, _, _, _, h, _, _ => by
    obtain ⟨rfl, rfl, rfl⟩ := trodAll_nil h
    exact h
  | t :: ts, _, _, _, ht, h, h1, h2 => by
    obtain ⟨v, vs1, d, ds1, a, b, rfl, rfl, rfl, q1, q2⟩ := trodAll_cons h
    have := ht t (by simp)
    exact ⟨a, b, WideElems.Trod_stays hl this.1 this.2 q1 (fun p hp => h1 p (List.mem_append_left _ hp)) (fun p hp => h2 p (List.mem_append_left _ hp)),
      trodAll_stays hl (fun t ht' => ht t (by simp [ht'])) q2 (fun p hp => h1 p (List.mem_append_right _ hp)) (fun p hp => h2 p (List.mem_append_right _ hp)), rfl⟩
theorem trodAll_length {H : Type} {enc : TypeId × Value → H} {P : Program} {w : World} {base : Nat} {spare : Nat → Bool} {held : Bool} : ∀ {ts : List TypeId} {vs : List Value} {ds : List (DataW H)} {ps : List MemPlace},
    DataW.TrodAll enc P w base spare held ts vs ds ps → ds.length = ts.length
  | [], _, _, _, h => by
    obtain ⟨_, rfl, _⟩ := trodAll_nil h
    rfl
  | t :: ts, _, _, _, h => by
    obtain ⟨v, vs1, d, ds1, a, b, rfl, rfl, rfl, q1, q2⟩ := trodAll_cons h
    simp [trodAll_length q2]
noncomputable def readable (l : List TypeId) : Bool := l.all fun t => Go.Proofs.Tryz.prog.readableRec t && decide (t < Go.Proofs.Tryz.prog.types.size)
theorem post_true {H : Type} {enc : TypeId × Value → H} {f : Func} {s : ChangeSpec} {W W' : World} {args : Array Value} {bt : TypeId} {ds gs : List (DataW H)} {before : List MemPlace}
    (hW : DataW.Whole enc Go.Proofs.Tryz.prog f.params.toList s.vars false W args.toList ds gs before) (hv : s.vars = []) (hs : s.fn H ds = { results := [.lit (.bool true)], args := ds })
    (hr : f.resultTypes = #[bt]) (hbt : Go.Proofs.Tryz.prog.underlying bt = some .bool) (hp : readable f.params.toList = true) (hb : Below W.heap.size W W') :
    s.post enc Go.Proofs.Tryz.prog f false true false false W args (.bool true) W' := by
  have hlt := hW.lt
  have hW' := hW
  obtain ⟨p, q, hA, hV, rfl, hfz, hnd⟩ := hW
  rw [hv] at hV
  have hV0 := hV
  obtain ⟨rfl, rfl⟩ := trodVars_none hV
  have hread : ∀ t ∈ f.params.toList, Go.Proofs.Tryz.prog.readableRec t = true ∧ t < Go.Proofs.Tryz.prog.types.size := by
    intro t ht
    have := List.all_eq_true.1 hp t ht
    simpa using this
  have hlt' : ∀ x ∈ p, x.block < W.heap.size := fun x hx => hlt x (by simp [hx])
  have e : s.fn H (ds ++ []) = { results := [.lit (.bool true)], args := ds } := by simpa using hs
  refine ⟨ds, [], p ++ [], [], p, [], hW', ?_, ?_, ?_, hb.frame _, fun ha => by cases ha⟩
  · rw [e, hr]
    exact trodAll_mk1 (shut_bool hbt true)
  · rw [e]
    exact trodAll_stays laid hread hA (fun x hx => hb.same (hlt' x hx)) (fun x hx => by simpa using hlt' x hx)
  · rw [e, hv]
    exact hV0
theorem tab_of {W : World} (hL : laidMetH P9 laidList W) : tabBlk < W.heap.size ∧ isTab ((h0 W).get tabBlk) = true := by
  have hL : laidMet P9 laidList W := hL
  have hL := laidMet.filter (fun x => x.1 == "internal/strconv.uint64pow10") hL
  have hl : laidList.filter (fun x => x.1 == "internal/strconv.uint64pow10") = [("internal/strconv.uint64pow10", Lib.tabData .u64 Lib.pow10Tab)] := by kernel_rfl
  rw [hl] at hL
  have ht : Lib.TabIs P9 W "internal/strconv.uint64pow10" .u64 Lib.pow10Tab := Lib.tabIs_of_head (g := tabBlk) (t := 337) (n := 20) (e := 58) (by kernel_rfl) (by kernel_rfl) (by kernel_rfl) (by kernel_rfl) (by kernel_rfl) (by kernel_rfl) hL
  have hg : P9.globalNamed "internal/strconv.uint64pow10" = some tabBlk := by kernel_rfl
  unfold Lib.TabIs World.var? at ht
  rw [hg] at ht
  simp only [Option.bind_some] at ht
  split at ht <;> simp only [Option.some.injEq, reduceCtorEq] at ht
  rename_i cs t f ho
  have hlt : tabBlk < W.heap.size := by
    rcases Nat.lt_or_ge tabBlk W.heap.size with h | h
    · exact h
    · rw [Array.getElem?_eq_none h] at ho; cases ho
  refine ⟨hlt, ?_⟩
  rw [h0_get, if_pos hlt, ho, ht]
  rfl
theorem row_laid {g : Nat} {fn : Func} {s : ChangeSpec} {bt : TypeId} {args0 : Array Value} (hx : Try.tb1.ext g = false) (hfn : Go.Proofs.Tryz.prog.funcs[g]? = some fn) (hv : s.vars = [])
    (hs : ∀ (H : Type) (ds : List (DataW H)), ds.length = fn.params.size → s.fn H ds = { results := [.lit (.bool true)], args := ds })
    (hr : fn.resultTypes = #[bt]) (hbt : Go.Proofs.Tryz.prog.underlying bt = some .bool) (hp : readable fn.params.toList = true) (hni : Go.Proofs.Tryz.checked.prog.inits.idxOf? g = none)
    (os : Os) (started : os.Started) (H : Type) (enc : TypeId × Value → H)
    (w1 : ((laidWorld os).forCall (fun _ _ => 0) ⟨#[], args0, []⟩).variablesB P9 = true)
    (w2 : (((laidWorld os).forCall (fun _ _ => 0) ⟨#[], args0, []⟩).heap.toList.drop P9.globals.size).take ((begin P9 (fun _ _ => 0) default).world.heap.size - P9.globals.size) = (begin P9 (fun _ _ => 0) default).world.heap.toList.drop P9.globals.size)
    (w3 : Input.okWideB P9 ((laidWorld os).forCall (fun _ _ => 0) ⟨#[], args0, []⟩) g ⟨#[], args0, []⟩ = true)
    (w4 : s.preB enc P9 fn [] false ((laidWorld os).forCall (fun _ _ => 0) ⟨#[], args0, []⟩).memory args0 8 = true)
    (w5 : s.sizedB enc P9 fn false ((laidWorld os).forCall (fun _ _ => 0) ⟨#[], args0, []⟩).memory args0 8 = true)
    (hrun : ∀ (W : World) (args : List Value) (ds : List (DataW H)) (ps : List MemPlace) (base : Nat), (∀ (j : Nat) t v, fn.params[j]? = some t → args[j]? = some v → Value.okWide Go.Proofs.Tryz.prog W .any base t v) →
      DataW.TrodAll enc Go.Proofs.Tryz.prog W 0 (fun _ => true) true fn.params.toList args ds ps →
      (DataW.weightsEach Go.Proofs.Tryz.prog fn.params.toList ds).all (· ≤ reachBytes) = true → isTab ((h0 W).get tabBlk) = true →
      ∃ us, concL (R0 W) us = some args ∧ WC Try.tb1 (.fn g [] []) us (h0 W) fun v h' => v = .b true ∧ Ext (h0 W) h') :
    ReturnsInHanded {} Go.Proofs.Tryz.checked os g .any (fun w args => (s.pre enc P9 fn [] false w args ∧ laidMetH P9 laidList w) ∧ sizedMet enc P9 fn (OpenSpec.ofChange s) false w args) (s.post enc Go.Proofs.Tryz.checked.prog fn false true false false) := by
  refine returnsInHanded_of_change_and (C := Go.Proofs.Tryz.checked) (X := fun w _ => laidMetH P9 laidList w) (fun _ _ _ hh h => h.of_heap hh) own started hni hfn
    (ChangeSpec.witness_at (enc := enc) (C := Go.Proofs.Tryz.checked) (os := os) (X := fun w _ => laidMetH P9 laidList w) false (laidWorld os) args0 8 rfl w1 w2 w3 w4 w5 (laid_reads os args0)) ?_
  intro W base args ds gs before hval hW _ hwt hL _
  have hW' := hW
  obtain ⟨p, q, hA, hV, rfl, hfz, hnd⟩ := hW
  rw [hv] at hV
  obtain ⟨rfl, rfl⟩ := trodVars_none hV
  have hw2 : (DataW.weightsEach Go.Proofs.Tryz.prog fn.params.toList ds).all (· ≤ reachBytes) = true := by
    have e : s.plain.varTypes Go.Proofs.Tryz.checked.prog = [] := by simp [DataSpec.varTypes, ChangeSpec.plain, hv]
    have h := hwt
    rw [e, List.append_nil, List.append_nil] at h
    exact h
  obtain ⟨us, h1, h2⟩ := hrun W args.toList ds p base (fun j t v h1 h2 => hval j t v h1 (by simpa using h2)) hA hw2 (tab_of hL).2
  have hcall := lift_true (tab_of hL).1 hx h1 h2
  rw [Array.toArray_toList] at hcall
  refine hcall.mono ?_
  rintro e W' ⟨rfl, hb⟩
  exact ⟨_, rfl, post_true hW' hv (hs H ds (by simpa using trodAll_length hA)) hr hbt hp hb⟩
end Go.Air
set_option maxRecDepth 100000
namespace Go.Air
open Go.ChangeShapes Go.WideShapes Go.ChangeAt Go.RowKit Go.Air.Try
variable {W : World}
theorem cell_inv {a : Addr} {x : Value} (h : W.cell? a = some x) : a.spot = none ∧ ∃ arr e f, W.heap[a.block]? = some (.cells arr e f) ∧ arr.toList[a.off]? = some x := by
  unfold World.cell? at h
  split at h <;> try simp at h
  rename_i arr e f ho
  exact ⟨h.1, arr, e, f, ho, by simpa using h.2⟩
theorem arg_of {a : Addr} {len cap esz : Nat} {cs : List V} (hlen : cs.length = len * esz) (hc : 0 < cap) (hz : 0 < esz) (hle : len ≤ cap) {x0 : Value} (hx0 : W.cell? (a.add 0) = some x0)
    (hcell : ∀ i u, cs[i]? = some u → ∃ x, W.cell? (a.add i) = some x ∧ absV W.heap.size x = some u) :
    ∃ v, absV W.heap.size (.slice (some a) len cap) = some v ∧ conc (R0 W) v = some (.slice (some a) len cap) ∧ Arg esz (h0 W) v len cs := by
  obtain ⟨b, o, s⟩ := a
  obtain ⟨hs, arr, e, f, ho, _⟩ := cell_inv hx0
  obtain rfl : s = none := by simpa [Addr.add] using hs
  simp only [add_spot] at hcell ho
  have hb : b < W.heap.size := by
    rcases Nat.lt_or_ge b W.heap.size with h | h
    · exact h
    · rw [Array.getElem?_eq_none h] at ho; cases ho
  have hv : absV W.heap.size (.slice (some ⟨b, o, none⟩) len cap) = some (.sl b o len cap none) := by
    simp only [absV]
    rw [if_pos ⟨hb, hle, hc⟩]
  refine ⟨_, hv, absV_conc hv, .inr ⟨b, o, cap, _, rfl, hle, hb, by rw [h0_get, if_pos hb, ho]; rfl, ?_⟩⟩
  have hcell' : ∀ (i : Nat) (u : V), cs[i]? = some u → ∃ x, arr.toList[o + i]? = some x ∧ absV W.heap.size x = some u := by
    intro i u hi
    obtain ⟨x, h1, h2⟩ := hcell i u hi
    obtain ⟨_, arr', e', f', q1, q2⟩ := cell_inv h1
    simp only at q1 q2
    rw [ho] at q1
    cases q1
    exact ⟨x, q2, h2⟩
  simp only [Blk.rd]
  refine cutO_of hlen (fun i u hi => ?_) ?_
  · obtain ⟨x, h1, h2⟩ := hcell' i u hi
    rw [List.getElem?_map, h1, Option.map_some, h2]
  · by_cases h0 : len * esz = 0
    · have hx : o ≤ arr.toList.length := by
        obtain ⟨_, arr', e', f', q1, q2⟩ := cell_inv hx0
        simp only [add_spot] at q1 q2
        rw [ho] at q1
        cases q1
        have := (List.getElem?_eq_some_iff.1 q2).1
        simp only [Nat.add_zero] at this
        omega
      simp only [List.length_map]; omega
    · have hlt : len * esz - 1 < cs.length := by omega
      obtain ⟨x, h1, _⟩ := hcell' (len * esz - 1) cs[len * esz - 1] (List.getElem?_eq_getElem hlt)
      have := (List.getElem?_eq_some_iff.1 h1).1
      simp only [List.length_map]; omega
theorem open_intsA {H : Type} {enc : TypeId × Value → H} {k : IntKind} {t e : TypeId} {base : Nat} {v : Value} {d : DataW H} {p : List MemPlace} (ht : Go.Proofs.Tryz.prog.underlying t = some (.slice e)) (he : Go.Proofs.Tryz.prog.underlying e = some (.int k))
    (hc : Go.Proofs.Tryz.prog.cellsOf e = 1) (hval : Value.okWide Go.Proofs.Tryz.prog W .any base t v) (hd : DataW.Trod enc Go.Proofs.Tryz.prog W 0 (fun _ => true) true t v d p) :
    ∃ u n, ∃ xs : List Int, absV W.heap.size v = some u ∧ conc (R0 W) u = some v ∧ Arg 1 (h0 W) u n (xs.map (V.i k)) ∧ n ≤ maxLen ∧ xs.length = n ∧ ∀ x ∈ xs, (Lit.int k x).wf = true := by
  obtain ⟨a0, len, cap, rfl⟩ := okWide_slice ht hval
  obtain ⟨fuel, hf⟩ := hd
  rcases open_ints ht he hc hf with ⟨hcs, hx⟩ | ⟨a, l', c', zs, hcs, _, hl, hm, hz, hx, hcell, hw⟩
  · simp [Value.cells] at hcs
    obtain ⟨rfl, rfl, rfl⟩ := hcs
    exact ⟨.sn, 0, [], rfl, by simp [conc], .inl ⟨rfl, rfl, .inl rfl⟩, by simp, rfl, by simp⟩
  · simp [Value.cells] at hcs
    obtain ⟨rfl, rfl, rfl⟩ := hcs
    simp only [if_true] at hz
    by_cases h0 : cap = 0
    · subst h0
      obtain rfl : len = 0 := by omega
      obtain ⟨b, o, s⟩ := a
      refine ⟨.se ⟨b, o, s⟩, 0, [], ?_, by simp [conc], .inl ⟨rfl, rfl, .inr ⟨_, rfl⟩⟩, by simp, rfl, by simp⟩
      cases s <;> simp [absV]
    · obtain ⟨u, q1, q2, q3⟩ := arg_of (W := W) (a := a) (len := len) (cap := cap) (esz := 1) (cs := (zs.take len).map (V.i k)) (by simp; omega) (by omega) (by omega) hl (hcell 0 (by omega)) (by
        intro i u hi
        rw [List.getElem?_map, Option.map_eq_some_iff] at hi
        obtain ⟨x, h1, rfl⟩ := hi
        have hlt := (List.getElem?_eq_some_iff.1 h1).1
        simp at hlt
        refine ⟨_, hcell i (by omega), ?_⟩
        have : zs.getD i 0 = x := by
          rw [List.getElem?_take_of_lt (by omega)] at h1
          rw [List.getD_eq_getElem?_getD, h1]; rfl
        rw [this]
        rfl)
      exact ⟨u, len, zs.take len, q1, q2, q3, by omega, by simp; omega, fun x hx => hw x (List.mem_of_mem_take hx)⟩
theorem open_bytesA {H : Type} {enc : TypeId × Value → H} {t e : TypeId} {base : Nat} {v : Value} {d : DataW H} {p : List MemPlace} (ht : Go.Proofs.Tryz.prog.underlying t = some (.slice e)) (he : Go.Proofs.Tryz.prog.underlying e = some (.int .u8))
    (hc : Go.Proofs.Tryz.prog.cellsOf e = 1) (hval : Value.okWide Go.Proofs.Tryz.prog W .any base t v) (hd : DataW.Trod enc Go.Proofs.Tryz.prog W 0 (fun _ => true) true t v d p) :
    ∃ u, ∃ bs : List Nat, conc (R0 W) u = some v ∧ Arg 1 (h0 W) u bs.length (bs.map u8) ∧ bs.length ≤ maxLen ∧ ∀ c ∈ bs, c < 256 := by
  obtain ⟨u, n, xs, _, q2, q3, q4, rfl, q6⟩ := open_intsA ht he hc hval hd
  have hr : ∀ x ∈ xs, 0 ≤ x ∧ x < 256 := by
    intro x hx
    have := q6 x hx
    simp only [Lit.wf, Bool.and_eq_true, decide_eq_true_eq] at this
    simp [IntKind.min, IntKind.max, IntKind.signed, IntKind.bits] at this
    omega
  have hm : (xs.map Int.toNat).map u8 = xs.map (V.i .u8) := by
    rw [List.map_map]
    refine List.map_congr_left fun x hx => ?_
    show V.i .u8 ((x.toNat : Nat) : Int) = _
    rw [Int.toNat_of_nonneg (hr x hx).1]
  refine ⟨u, xs.map Int.toNat, q2, by rw [hm, List.length_map]; exact q3, by simpa using q4, fun c hc => ?_⟩
  obtain ⟨x, hx, rfl⟩ := List.mem_map.1 hc
  have := hr x hx
  omega
end Go.Air
