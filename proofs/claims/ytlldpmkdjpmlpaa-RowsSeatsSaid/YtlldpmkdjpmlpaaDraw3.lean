/-
  Open orders, third part: one more operation is done.
-/
import Derived.Test.YtlldpmkdjpmlpaaDraw2
set_option linter.unusedSectionVars false
set_option linter.unusedVariables false
set_option linter.unusedSimpArgs false
namespace Go.Air
section
open Classical
variable {P : Program} {call : V → List V → H → RO} {N : Nat} {o : Nat → O} {ft : Nat → Foot} {T : Nat → List V} {S : Nat → H}
variable {pr : Nat → Nat → Prop} {D : Nat → Prop} {i j n m b x : Nat} {mk : Nat} {R0 R R' : Emb} {w0 w w' : World} {a : Act}

def more (D : Nat → Prop) (i : Nat) : Nat → Prop := fun j => D j ∨ j = i

theorem more_off (h : j ≠ i) : more D i j ↔ D j := ⟨fun q => q.resolve_right h, .inl⟩

/-- the temporaries after the step. -/
theorem step_tm (hr : Run N o ft T S call pr) (hn : Nxt N pr D i) {th : List V} {v : V} (hlen : th.length = (T 0).length) (hth : ∀ x, nth th x = vt o T D x N) (hT : T (i + 1) = putD (T i) (o i).dst v) :
    (putD th (o i).dst v).length = (T 0).length ∧ ∀ x, nth (putD th (o i).dst v) x = vt o T (more D i) x N := by
  refine ⟨by rw [putD_length]; exact hlen, fun x => ?_⟩
  have hi := hn.lt
  by_cases hx : (o i).dst = some x
  · rw [vt_hit (i := i) (D := more D i) (.inr rfl) hx hi, hT, hx]
    · exact nth_putD_same (by rw [hlen, hr.len i (by omega)])
    · rintro j h1 h2 ⟨hD, hd⟩
      have hD' : D j := hD.resolve_right (by omega)
      exact ((hn.after hr h1 h2 hD').d1 x hx).2 hd
  · rw [nth_putD hx, hth, vt_same]
    intro j hj hd
    exact (more_off (by rintro rfl; exact hx hd)).symm

theorem Inv.skip (hr : Run N o ft T S call pr) (hn : Nxt N pr D i) (I : Inv P N o ft T S mk R0 w0 D R w a) {dst : Option Tmp} (hd : okDst dst (o i).dst = true) (hwt : wants (o i).g (T i) = false) :
    Inv P N o ft T S mk R0 w0 (more D i) R w (a.put dst undef) := by
  have hi := hn.lt
  obtain ⟨hT, hS, hf⟩ : T (i + 1) = putD (T i) (o i).dst .undef ∧ S (i + 1) = S i ∧ ft i = ⟨some [], []⟩ := by
    rcases (hr.at' i hi).run with ⟨h1, _⟩ | ⟨_, h⟩
    · rw [hwt] at h1; cases h1
    · exact h
  have hno : ∀ b, ¬ touch ft S i b := by
    rintro b (h | h)
    · rw [hf] at h; simp at h
    · rw [hS] at h; omega
  have hver : (fun b => ver ft S (more D i) b N) = fun b => ver ft S D b N := by
    funext b
    refine ver_same N fun j _ ht => more_off ?_
    rintro rfl
    exact hno b ht
  obtain ⟨th, h1, h2, h3⟩ := I.tm
  refine ⟨?_, ⟨_, put_tmps hd h1 (conc_undef R), step_tm hr hn h2 h3 hT⟩, by rw [hver]; exact I.sim, ?_, ?_, I.le, I.size, I.new, I.frame, by rw [put_defers]; exact I.marks, I.io⟩
  · rintro j (h | rfl)
    · exact I.sub j h
    · exact hi
  · intro b y hb
    rcases I.brn b y hb with h | h | ⟨j, h, h'⟩
    · exact .inl h
    · exact .inr (.inl h)
    · exact .inr (.inr ⟨j, .inl h, h'⟩)
  · rintro j (h | rfl) b hb
    · exact I.own j h b hb
    · rw [hf] at hb; simp at hb

/-- what the step looks at. -/
def footF (ft : Nat → Foot) (S : Nat → H) (i : Nat) : Nat → Prop := fun b => ∀ r, (ft i).rd = some r → b ∈ r ∨ (S i).next ≤ b

theorem Inv.sim_at (hr : Run N o ft T S call pr) (hn : Nxt N pr D i) (I : Inv P N o ft T S mk R0 w0 D R w a) : Sim P (footF ft S i) R (S i).get w := by
  have key : ∀ b c sz y, footF ft S i b → R b = some (c, sz) → (S i).get b = some y → ver ft S D b N = some y := by
    intro b c sz y hF hR hy
    have hlt := (hr.wfs i (by have := hn.lt; omega)).lt hy
    rw [hn.blk hr (I.brn b) hR (fun r hrd => (hF r hrd).resolve_right (by omega)) hlt]
    exact hy
  exact ⟨fun b c sz y hF hR hy => I.sim.blk b c sz y trivial hR (key b c sz y hF hR hy),
    fun b b' c sz sz' y y' hF hF' hR hR' hy hy' => I.sim.inj b b' c sz sz' y y' trivial trivial hR hR' (key b c sz y hF hR hy) (key b' c sz' y' hF' hR' hy'), I.sim.lt⟩

theorem Inv.fresh (hr : Run N o ft T S call pr) (hn : Nxt N pr D i) (I : Inv P N o ft T S mk R0 w0 D R w a) (hb : born S i b) : R b = none := by
  have hi := hn.lt
  cases hR : R b with
  | none => rfl
  | some y =>
    exfalso
    rcases I.brn b y hR with h | h | ⟨j, h, h'⟩
    · have := hr.nx i 0 (by omega) (by omega)
      have := hb.1; omega
    · have := hr.nx N (i + 1) (by omega) (by omega)
      have := hb.2; omega
    · rw [← born_one hr hi (I.sub j h) hb h'] at h
      exact hn.not h

theorem Inv.done (hr : Run N o ft T S call pr) (hn : Nxt N pr D i) (I : Inv P N o ft T S mk R0 w0 D R w a) {dst : Option Tmp} {v : V} {hh : H} {u : Value} {th : List V} (hd : okDst dst (o i).dst = true)
    (hth1 : concL R th = some a.tmps.toList) (hth2 : th.length = (T 0).length) (hth3 : ∀ x, nth th x = vt o T D x N)
    (hT : T (i + 1) = putD (T i) (o i).dst v) (hS : S (i + 1) = ⟨hh.next, hh.mem, (ft i).wr ++ (S i).log⟩) (hwr : (ft i).wr = oldOnes (S i).next hh.log) (hwfh : WF hh)
    (hp : PostV P (footF ft S i) R ⟨(S i).next, (S i).mem, []⟩ w v hh u w') : ∃ R', Inv P N o ft T S mk R0 w0 (more D i) R' w' (a.put dst u) := by
  have hi := hn.lt
  obtain ⟨R', l, f, s, hu⟩ := hp
  have hll : l = hh.log := by have := f.log; simpa using this.symm
  subst hll
  have hnext : (S (i + 1)).next = hh.next := by rw [hS]
  have hget : ∀ b, (S (i + 1)).get b = hh.get b := by intro b; rw [hS]; rfl
  have hnewR : ∀ b c sz, R' b = some (c, sz) → R b = some (c, sz) ∨ (born S i b ∧ (w.heap.size ≤ c ∨ ∃ b0 sz0, R b0 = some (c, sz0) ∧ b0 ∈ hh.log)) := by
    intro b c sz hb
    rcases f.new b c sz hb with h | ⟨h1, h2, h3⟩
    · exact .inl h
    · exact .inr ⟨⟨h1, by rw [hnext]; exact h2⟩, h3⟩
  -- a block written that is embedded is one of before, and lives
  have hwrit : ∀ b y, R b = some y → b ∈ hh.log → b ∈ (ft i).wr ∧ ∃ z, ver ft S D b N = some z := by
    intro b y hR hb
    have hlt := hwfh.2 b hb
    have hltS : b < (S i).next := by
      rcases Nat.lt_or_ge b (S i).next with h | h
      · exact h
      · have := I.fresh hr hn (b := b) ⟨h, by rw [hnext]; exact hlt⟩
        rw [this] at hR; cases hR
    have hin : b ∈ (ft i).wr := by rw [hwr]; exact mem_oldOnes hltS hb
    obtain ⟨_, z, hz⟩ := (hr.at' i hi).had b hin
    refine ⟨hin, z, ?_⟩
    rw [hn.blk hr (I.brn b) hR (fun r hrd => (hr.at' i hi).sub r hrd b hin) hltS]
    exact hz
  have hwrR : ∀ b ∈ (ft i).wr, ∃ y, R b = some y := by
    intro b hb
    rw [hwr] at hb
    have hlt := (oldOnes_lt hb).1
    rcases f.own b (oldOnes_lt hb).2 with h | h
    · exact absurd h.1 (by simp; exact hlt)
    · exact h.1
  -- the version after the step
  have hvtouch : ∀ b, touch ft S i b → ver ft S (more D i) b N = hh.get b := by
    intro b ht
    rw [ver_hit (i := i) (D := more D i) (.inr rfl) ht hi, hget]
    rintro j h1 h2 ⟨hD, htj⟩
    have hD' : D j := hD.resolve_right (by omega)
    have hni := hr.nx j (i + 1) (by omega) (by omega)
    rcases htj with htj | htj
    · rcases ht with ht | ht
      · exact ((hn.after hr h1 h2 hD').m1 b ht).2.2 htj
      · obtain ⟨y, hy⟩ := I.own j hD' b htj
        rw [I.fresh hr hn ht] at hy; cases hy
    · rcases ht with ht | ht
      · rw [hwr] at ht
        have := (oldOnes_lt ht).1
        have := htj.1
        have := (hr.at' i hi).nx
        omega
      · have := ht.2; have := htj.1; omega
  have hvoff : ∀ b, ¬ touch ft S i b → ver ft S (more D i) b N = ver ft S D b N := by
    intro b ht
    refine ver_same N fun j _ htj => more_off ?_
    rintro rfl
    exact ht htj
  have hFt : ∀ b, touch ft S i b → footF ft S i b := by
    rintro b (h | h) r hrd
    · exact .inl ((hr.at' i hi).sub r hrd b h)
    · exact .inr h.1
  have hold : ∀ b c sz, ¬ touch ft S i b → R' b = some (c, sz) → R b = some (c, sz) := by
    intro b c sz ht hb
    rcases hnewR b c sz hb with h | ⟨h, _⟩
    · exact h
    · exact absurd (.inr h) ht
  -- two at one place, one touched and one not
  have hmix : ∀ b1 b2 c s1 s2 z1 z2, touch ft S i b1 → ¬ touch ft S i b2 → R' b1 = some (c, s1) → R' b2 = some (c, s2) → ver ft S (more D i) b1 N = some z1 → ver ft S (more D i) b2 N = some z2 → False := by
    intro b1 b2 c s1 s2 z1 z2 h1 h2 r1 r2 v1 v2
    have r2' := hold b2 c s2 h2 r2
    rw [hvoff b2 h2] at v2
    rcases hnewR b1 c s1 r1 with h | ⟨hb, h | ⟨b0, s0, h, h'⟩⟩
    · rcases h1 with h1 | h1
      · obtain ⟨y, hy⟩ := hwrit b1 _ h (by rw [hwr] at h1; exact (oldOnes_lt h1).2)
        obtain ⟨z, hz⟩ := hy
        have := I.sim.inj b1 b2 c s1 s2 z z2 trivial trivial h r2' hz v2
        subst this
        exact h2 (.inl y)
      · rw [I.fresh hr hn h1] at h; cases h
    · have := I.sim.lt b2 c s2 r2'
      omega
    · obtain ⟨y, z, hz⟩ := hwrit b0 _ h h'
      have := I.sim.inj b0 b2 c s0 s2 z z2 trivial trivial h r2' hz v2
      subst this
      exact h2 (.inl y)
  have hLL : ∀ b, b ∈ (ft i).wr → ∃ j, j < N ∧ b ∈ (ft j).wr := fun b hb => ⟨i, hi, hb⟩
  refine ⟨R', ⟨?_, ⟨_, put_tmps hd (concL_mono f.le _ _ hth1) hu, step_tm hr hn hth2 hth3 hT⟩, ⟨?_, ?_, s.lt⟩, ?_, ?_, Emb.le_trans I.le f.le, Nat.le_trans I.size f.size, ?_, ?_, by rw [put_defers]; exact I.marks.fwd f, I.io.trans f.io⟩⟩
  · rintro j (h | rfl)
    · exact I.sub j h
    · exact hi
  · intro b c sz y _ hb hy
    by_cases ht : touch ft S i b
    · rw [hvtouch b ht] at hy
      exact s.blk b c sz y (hFt b ht) hb hy
    · have hb' := hold b c sz ht hb
      have hy' := hy
      rw [hvoff b ht] at hy'
      refine (I.sim.blk b c sz y trivial hb' hy').mono P f.le (f.frame c (I.sim.lt b c sz hb') ?_)
      intro b' sz' hb1 hb2
      obtain ⟨h1, z, h2⟩ := hwrit b' _ hb1 hb2
      have := I.sim.inj b b' c sz sz' y z trivial trivial hb' hb1 hy' h2
      subst this
      exact ht (.inl h1)
  · intro b1 b2 c s1 s2 z1 z2 _ _ r1 r2 v1 v2
    by_cases h1 : touch ft S i b1
    · by_cases h2 : touch ft S i b2
      · simp only [hvtouch b1 h1] at v1
        simp only [hvtouch b2 h2] at v2
        exact s.inj b1 b2 c s1 s2 z1 z2 (hFt b1 h1) (hFt b2 h2) r1 r2 v1 v2
      · exact (hmix b1 b2 c s1 s2 z1 z2 h1 h2 r1 r2 v1 v2).elim
    · by_cases h2 : touch ft S i b2
      · exact (hmix b2 b1 c s2 s1 z2 z1 h2 h1 r2 r1 v2 v1).elim
      · simp only [hvoff b1 h1] at v1
        simp only [hvoff b2 h2] at v2
        exact I.sim.inj b1 b2 c s1 s2 z1 z2 trivial trivial (hold b1 c s1 h1 r1) (hold b2 c s2 h2 r2) v1 v2
  · intro b y hb
    obtain ⟨c, sz⟩ := y
    rcases hnewR b c sz hb with h | ⟨h, _⟩
    · rcases I.brn b _ h with h | h | ⟨j, h, h'⟩
      · exact .inl h
      · exact .inr (.inl h)
      · exact .inr (.inr ⟨j, .inl h, h'⟩)
    · exact .inr (.inr ⟨i, .inr rfl, h⟩)
  · rintro j (h | rfl) b hb
    · obtain ⟨y, hy⟩ := I.own j h b hb
      exact ⟨y, f.le _ _ hy⟩
    · obtain ⟨y, hy⟩ := hwrR b hb
      exact ⟨y, f.le _ _ hy⟩
  · intro b c sz hb
    rcases hnewR b c sz hb with h | ⟨h, h'⟩
    · exact I.new b c sz h
    · refine .inr ⟨Nat.le_trans (hr.nx i 0 (by omega) (by omega)) h.1, Nat.lt_of_lt_of_le h.2 (hr.nx N (i + 1) (by omega) (by omega)), ?_⟩
      rcases h' with h' | ⟨b0, s0, h1, h2⟩
      · exact .inl (Nat.le_trans I.size h')
      · rcases I.new b0 c s0 h1 with h3 | ⟨_, _, h3⟩
        · exact .inr ⟨b0, s0, h3, hLL b0 (hwrit b0 _ h1 h2).1⟩
        · exact h3
  · intro c hc hno
    rw [f.frame c (Nat.lt_of_lt_of_le hc I.size) ?_, I.frame c hc hno]
    intro b sz hb hbl
    rcases I.new b c sz hb with h | ⟨_, _, h | ⟨b0, s0, h1, h2⟩⟩
    · exact hno b sz h (hLL b (hwrit b _ hb hbl).1)
    · omega
    · exact hno b0 s0 h1 h2
end
end Go.Air
