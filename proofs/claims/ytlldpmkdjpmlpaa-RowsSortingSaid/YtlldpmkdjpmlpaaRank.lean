/-
  Check of a relation, the program's and the document's, in Air.
-/
import Derived.Test.YtlldpmkdjpmlpaaArrows
set_option linter.unusedSectionVars false
set_option linter.unusedVariables false
set_option linter.unusedSimpArgs false
set_option maxRecDepth 100000
namespace Go.Air
open Go.Air.Try

theorem WL_append {tbl : Nat → Option FI} {T : List V → H → Prop} : ∀ {a b : List O} {t : List V} {h : H}, WL tbl (a ++ b) t h T ↔ WL tbl a t h (fun t h => WL tbl b t h T)
  | [], b, t, h => by rw [WL_nil]; rfl
  | o :: a, b, t, h => by
    rw [List.cons_append, WL_cons, WL_cons]
    split
    · constructor
      · intro w; exact w.mono fun v h' q => WL_append.1 q
      · intro w; exact w.mono fun v h' q => WL_append.2 q
    · exact WL_append
def s66_8_0 : List O := [⟨some 19, none, .fld 0 (.t 4)⟩,
  ⟨some 20, none, .ld (.t 19)⟩,
  ⟨some 21, none, .fld 0 (.t 1)⟩,
  ⟨some 22, none, .ld (.t 21)⟩,
  ⟨some 23, none, .bin .sub (.t 22) (.c (.i .i64 1))⟩,
  ⟨some 24, none, .call (.f 108) [(.t 20), (.c (.i .i64 0)), (.t 23)]⟩,
  ⟨some 25, none, .un .not (.t 24)⟩]
def s66_8_1 : List O := [⟨some 26, none, .mov (.t 25)⟩,
  ⟨some 27, some (26, false), .fld 1 (.t 4)⟩,
  ⟨some 28, some (26, false), .ld (.t 27)⟩,
  ⟨some 29, some (26, false), .fld 0 (.t 1)⟩,
  ⟨some 30, some (26, false), .ld (.t 29)⟩,
  ⟨some 31, some (26, false), .bin .sub (.t 30) (.c (.i .i64 1))⟩,
  ⟨some 32, some (26, false), .call (.f 108) [(.t 28), (.c (.i .i64 0)), (.t 31)]⟩,
  ⟨some 33, some (26, false), .un .not (.t 32)⟩,
  ⟨some 34, none, .pick (.t 26) (.c (.b true)) (.t 33)⟩]
def s66_8_2 : List O := [⟨some 35, none, .mov (.t 34)⟩,
  ⟨some 36, some (35, false), .fld 0 (.t 4)⟩,
  ⟨some 37, some (35, false), .ld (.t 36)⟩,
  ⟨some 38, some (35, false), .fld 1 (.t 4)⟩,
  ⟨some 39, some (35, false), .ld (.t 38)⟩,
  ⟨some 40, some (35, false), .bin .eql (.t 37) (.t 39)⟩,
  ⟨some 41, none, .pick (.t 35) (.c (.b true)) (.t 40)⟩]
def s66_8_3 : List O := [⟨some 42, none, .mov (.t 41)⟩,
  ⟨some 43, some (42, false), .fld 2 (.t 4)⟩,
  ⟨some 44, some (42, false), .ld (.t 43)⟩,
  ⟨some 45, some (42, false), .call (.f 108) [(.t 44), (.c (.i .i64 0)), (.c (.i .i64 23))]⟩,
  ⟨some 46, some (42, false), .un .not (.t 45)⟩,
  ⟨some 47, none, .pick (.t 42) (.c (.b true)) (.t 46)⟩]
def s66_8_4 : List O := [⟨some 48, none, .mov (.t 47)⟩,
  ⟨some 49, some (48, false), .fld 3 (.t 4)⟩,
  ⟨some 50, some (48, false), .ld (.t 49)⟩,
  ⟨some 51, some (48, false), .call (.f 108) [(.t 50), (.c (.i .i64 1)), (.c (.i .i64 1000))]⟩,
  ⟨some 52, some (48, false), .un .not (.t 51)⟩,
  ⟨some 53, none, .pick (.t 48) (.c (.b true)) (.t 52)⟩]
theorem r66_8_eq : r66_8 = s66_8_0 ++ (s66_8_1 ++ (s66_8_2 ++ (s66_8_3 ++ (s66_8_4)))) := rfl
theorem sg66_8_0 {h : H} {b q : Nat} {N : Int} {a : Arw} {t : List V} {T : List V → H → Prop} (tl : t.length = 68) (tb : nth t 1 = .p b 0) (tq : nth t 4 = .p q 0) (lN : ldV h (.p b 0) = some (.i .i64 N)) (x0 : ldV h (.p q 0) = some (.i .i64 a.f)) (x1 : ldV h (.p q 1) = some (.i .i64 a.t)) (x2 : ldV h (.p q 2) = some (.i .i64 a.r)) (x3 : ldV h (.p q 3) = some (.i .i64 a.w)) (hw : IntKind.i64.wrap (N - 1) = N - 1) (hT : ∀ t', t'.length = 68 → (∀ j, j < 19 → nth t' j = nth t j) → nth t' 25 = .b (!inB a.f 0 (N - 1)) → T t' h) : WL tblA s66_8_0 t h T := by
  cases c : inB a.f 0 (N - 1)
  · simp only [go_sem, ↓reduceIte, s66_8_0, tl, tb, tq, lN, x0, x1, x2, x3, hw, c]
    exact hT _ (by simp only [upd_length, tl]) (fun j hj => by simp only [nth_upd]; repeat rw [if_neg (by omega)]) (by simp only [go_sem, ↓reduceIte, tl]; try simp [c])
  · simp only [go_sem, ↓reduceIte, s66_8_0, tl, tb, tq, lN, x0, x1, x2, x3, hw, c]
    exact hT _ (by simp only [upd_length, tl]) (fun j hj => by simp only [nth_upd]; repeat rw [if_neg (by omega)]) (by simp only [go_sem, ↓reduceIte, tl]; try simp [c])
theorem sg66_8_1 {h : H} {b q : Nat} {N : Int} {a : Arw} {p : Bool} {t : List V} {T : List V → H → Prop} (tl : t.length = 68) (tb : nth t 1 = .p b 0) (tq : nth t 4 = .p q 0) (lN : ldV h (.p b 0) = some (.i .i64 N)) (x0 : ldV h (.p q 0) = some (.i .i64 a.f)) (x1 : ldV h (.p q 1) = some (.i .i64 a.t)) (x2 : ldV h (.p q 2) = some (.i .i64 a.r)) (x3 : ldV h (.p q 3) = some (.i .i64 a.w)) (hw : IntKind.i64.wrap (N - 1) = N - 1) (hp : nth t 25 = .b p) (hT : ∀ t', t'.length = 68 → (∀ j, j < 19 → nth t' j = nth t j) → nth t' 34 = .b (p || !inB a.t 0 (N - 1)) → T t' h) : WL tblA s66_8_1 t h T := by
  cases p
  · cases c : inB a.t 0 (N - 1)
    · simp only [go_sem, ↓reduceIte, s66_8_1, tl, tb, tq, lN, x0, x1, x2, x3, hw, hp, c]
      exact hT _ (by simp only [upd_length, tl]) (fun j hj => by simp only [nth_upd]; repeat rw [if_neg (by omega)]) (by simp only [go_sem, ↓reduceIte, tl]; try simp [c])
    · simp only [go_sem, ↓reduceIte, s66_8_1, tl, tb, tq, lN, x0, x1, x2, x3, hw, hp, c]
      exact hT _ (by simp only [upd_length, tl]) (fun j hj => by simp only [nth_upd]; repeat rw [if_neg (by omega)]) (by simp only [go_sem, ↓reduceIte, tl]; try simp [c])
  · simp only [go_sem, ↓reduceIte, s66_8_1, tl, tb, tq, lN, x0, x1, x2, x3, hw, hp]
    exact hT _ (by simp only [upd_length, tl]) (fun j hj => by simp only [nth_upd]; repeat rw [if_neg (by omega)]) (by simp only [go_sem, ↓reduceIte, tl]; try simp)
theorem sg66_8_2 {h : H} {b q : Nat} {N : Int} {a : Arw} {p : Bool} {t : List V} {T : List V → H → Prop} (tl : t.length = 68) (tb : nth t 1 = .p b 0) (tq : nth t 4 = .p q 0) (lN : ldV h (.p b 0) = some (.i .i64 N)) (x0 : ldV h (.p q 0) = some (.i .i64 a.f)) (x1 : ldV h (.p q 1) = some (.i .i64 a.t)) (x2 : ldV h (.p q 2) = some (.i .i64 a.r)) (x3 : ldV h (.p q 3) = some (.i .i64 a.w)) (hw : IntKind.i64.wrap (N - 1) = N - 1) (hp : nth t 34 = .b p) (hT : ∀ t', t'.length = 68 → (∀ j, j < 19 → nth t' j = nth t j) → nth t' 41 = .b (p || decide (a.f = a.t)) → T t' h) : WL tblA s66_8_2 t h T := by
  cases p
  · by_cases c : a.f = a.t
    · simp only [go_sem, ↓reduceIte, s66_8_2, tl, tb, tq, lN, x0, x1, x2, x3, hw, hp, c]
      exact hT _ (by simp only [upd_length, tl]) (fun j hj => by simp only [nth_upd]; repeat rw [if_neg (by omega)]) (by simp only [go_sem, ↓reduceIte, tl]; simp [c])
    · simp only [go_sem, ↓reduceIte, s66_8_2, tl, tb, tq, lN, x0, x1, x2, x3, hw, hp, c]
      exact hT _ (by simp only [upd_length, tl]) (fun j hj => by simp only [nth_upd]; repeat rw [if_neg (by omega)]) (by simp only [go_sem, ↓reduceIte, tl]; simp [c])
  · simp only [go_sem, ↓reduceIte, s66_8_2, tl, tb, tq, lN, x0, x1, x2, x3, hw, hp]
    exact hT _ (by simp only [upd_length, tl]) (fun j hj => by simp only [nth_upd]; repeat rw [if_neg (by omega)]) (by simp only [go_sem, ↓reduceIte, tl]; try simp)
theorem sg66_8_3 {h : H} {b q : Nat} {N : Int} {a : Arw} {p : Bool} {t : List V} {T : List V → H → Prop} (tl : t.length = 68) (tb : nth t 1 = .p b 0) (tq : nth t 4 = .p q 0) (lN : ldV h (.p b 0) = some (.i .i64 N)) (x0 : ldV h (.p q 0) = some (.i .i64 a.f)) (x1 : ldV h (.p q 1) = some (.i .i64 a.t)) (x2 : ldV h (.p q 2) = some (.i .i64 a.r)) (x3 : ldV h (.p q 3) = some (.i .i64 a.w)) (hw : IntKind.i64.wrap (N - 1) = N - 1) (hp : nth t 41 = .b p) (hT : ∀ t', t'.length = 68 → (∀ j, j < 19 → nth t' j = nth t j) → nth t' 47 = .b (p || !inB a.r 0 23) → T t' h) : WL tblA s66_8_3 t h T := by
  cases p
  · cases c : inB a.r 0 23
    · simp only [go_sem, ↓reduceIte, s66_8_3, tl, tb, tq, lN, x0, x1, x2, x3, hw, hp, c]
      exact hT _ (by simp only [upd_length, tl]) (fun j hj => by simp only [nth_upd]; repeat rw [if_neg (by omega)]) (by simp only [go_sem, ↓reduceIte, tl]; try simp [c])
    · simp only [go_sem, ↓reduceIte, s66_8_3, tl, tb, tq, lN, x0, x1, x2, x3, hw, hp, c]
      exact hT _ (by simp only [upd_length, tl]) (fun j hj => by simp only [nth_upd]; repeat rw [if_neg (by omega)]) (by simp only [go_sem, ↓reduceIte, tl]; try simp [c])
  · simp only [go_sem, ↓reduceIte, s66_8_3, tl, tb, tq, lN, x0, x1, x2, x3, hw, hp]
    exact hT _ (by simp only [upd_length, tl]) (fun j hj => by simp only [nth_upd]; repeat rw [if_neg (by omega)]) (by simp only [go_sem, ↓reduceIte, tl]; try simp)
theorem sg66_8_4 {h : H} {b q : Nat} {N : Int} {a : Arw} {p : Bool} {t : List V} {T : List V → H → Prop} (tl : t.length = 68) (tb : nth t 1 = .p b 0) (tq : nth t 4 = .p q 0) (lN : ldV h (.p b 0) = some (.i .i64 N)) (x0 : ldV h (.p q 0) = some (.i .i64 a.f)) (x1 : ldV h (.p q 1) = some (.i .i64 a.t)) (x2 : ldV h (.p q 2) = some (.i .i64 a.r)) (x3 : ldV h (.p q 3) = some (.i .i64 a.w)) (hw : IntKind.i64.wrap (N - 1) = N - 1) (hp : nth t 47 = .b p) (hT : ∀ t', t'.length = 68 → (∀ j, j < 19 → nth t' j = nth t j) → nth t' 53 = .b (p || !inB a.w 1 1000) → T t' h) : WL tblA s66_8_4 t h T := by
  cases p
  · cases c : inB a.w 1 1000
    · simp only [go_sem, ↓reduceIte, s66_8_4, tl, tb, tq, lN, x0, x1, x2, x3, hw, hp, c]
      exact hT _ (by simp only [upd_length, tl]) (fun j hj => by simp only [nth_upd]; repeat rw [if_neg (by omega)]) (by simp only [go_sem, ↓reduceIte, tl]; try simp [c])
    · simp only [go_sem, ↓reduceIte, s66_8_4, tl, tb, tq, lN, x0, x1, x2, x3, hw, hp, c]
      exact hT _ (by simp only [upd_length, tl]) (fun j hj => by simp only [nth_upd]; repeat rw [if_neg (by omega)]) (by simp only [go_sem, ↓reduceIte, tl]; try simp [c])
  · simp only [go_sem, ↓reduceIte, s66_8_4, tl, tb, tq, lN, x0, x1, x2, x3, hw, hp]
    exact hT _ (by simp only [upd_length, tl]) (fun j hj => by simp only [nth_upd]; repeat rw [if_neg (by omega)]) (by simp only [go_sem, ↓reduceIte, tl]; try simp)
theorem ops66_8 {h : H} {b q : Nat} {N : Int} {a : Arw} {t : List V} {Q : Out → List V → H → Prop} (tl : t.length = 68) (tb : nth t 1 = .p b 0) (tq : nth t 4 = .p q 0) (lN : ldV h (.p b 0) = some (.i .i64 N)) (x0 : ldV h (.p q 0) = some (.i .i64 a.f)) (x1 : ldV h (.p q 1) = some (.i .i64 a.t)) (x2 : ldV h (.p q 2) = some (.i .i64 a.r)) (x3 : ldV h (.p q 3) = some (.i .i64 a.w)) (hw : IntKind.i64.wrap (N - 1) = N - 1) (hQ : ∀ t', t'.length = 68 → (∀ j, j < 19 → nth t' j = nth t j) → nth t' 53 = .b ((((!inB a.f 0 (N - 1) || !inB a.t 0 (N - 1)) || decide (a.f = a.t)) || !inB a.r 0 23) || !inB a.w 1 1000) → Q .norm t' h) : WL tblA r66_8 t h (Kops Q) := by
  rw [r66_8_eq]
  rw [WL_append]
  refine sg66_8_0 tl tb tq lN x0 x1 x2 x3 hw ?_
  intro t0 l0 k0 v0
  rw [WL_append]
  refine sg66_8_1 l0 ((k0 1 (by omega)).trans tb) ((k0 4 (by omega)).trans tq) lN x0 x1 x2 x3 hw v0 ?_
  intro t1 l1 k1 v1
  replace k1 : ∀ j, j < 19 → nth t1 j = nth t j := fun j hj => (k1 j hj).trans (k0 j hj)
  rw [WL_append]
  refine sg66_8_2 l1 ((k1 1 (by omega)).trans tb) ((k1 4 (by omega)).trans tq) lN x0 x1 x2 x3 hw v1 ?_
  intro t2 l2 k2 v2
  replace k2 : ∀ j, j < 19 → nth t2 j = nth t j := fun j hj => (k2 j hj).trans (k1 j hj)
  rw [WL_append]
  refine sg66_8_3 l2 ((k2 1 (by omega)).trans tb) ((k2 4 (by omega)).trans tq) lN x0 x1 x2 x3 hw v2 ?_
  intro t3 l3 k3 v3
  replace k3 : ∀ j, j < 19 → nth t3 j = nth t j := fun j hj => (k3 j hj).trans (k2 j hj)
  refine sg66_8_4 l3 ((k3 1 (by omega)).trans tb) ((k3 4 (by omega)).trans tq) lN x0 x1 x2 x3 hw v3 ?_
  intro t4 l4 k4 v4
  replace k4 : ∀ j, j < 19 → nth t4 j = nth t j := fun j hj => (k4 j hj).trans (k3 j hj)
  exact hQ t4 l4 k4 v4

def s76_9_0 : List O := [⟨some 24, none, .fld 0 (.t 4)⟩,
  ⟨some 25, none, .ld (.t 24)⟩,
  ⟨some 26, none, .bin .lss (.t 25) (.c (.i .i64 0))⟩]
def s76_9_1 : List O := [⟨some 27, none, .mov (.t 26)⟩,
  ⟨some 28, some (27, false), .fld 0 (.t 4)⟩,
  ⟨some 29, some (27, false), .ld (.t 28)⟩,
  ⟨some 30, some (27, false), .fld 0 (.t 1)⟩,
  ⟨some 31, some (27, false), .ld (.t 30)⟩,
  ⟨some 32, some (27, false), .bin .geq (.t 29) (.t 31)⟩,
  ⟨some 33, none, .pick (.t 27) (.c (.b true)) (.t 32)⟩]
def s76_9_2 : List O := [⟨some 34, none, .mov (.t 33)⟩,
  ⟨some 35, some (34, false), .fld 1 (.t 4)⟩,
  ⟨some 36, some (34, false), .ld (.t 35)⟩,
  ⟨some 37, some (34, false), .bin .lss (.t 36) (.c (.i .i64 0))⟩,
  ⟨some 38, none, .pick (.t 34) (.c (.b true)) (.t 37)⟩]
def s76_9_3 : List O := [⟨some 39, none, .mov (.t 38)⟩,
  ⟨some 40, some (39, false), .fld 1 (.t 4)⟩,
  ⟨some 41, some (39, false), .ld (.t 40)⟩,
  ⟨some 42, some (39, false), .fld 0 (.t 1)⟩,
  ⟨some 43, some (39, false), .ld (.t 42)⟩,
  ⟨some 44, some (39, false), .bin .geq (.t 41) (.t 43)⟩,
  ⟨some 45, none, .pick (.t 39) (.c (.b true)) (.t 44)⟩]
def s76_9_4 : List O := [⟨some 46, none, .mov (.t 45)⟩,
  ⟨some 47, some (46, false), .fld 0 (.t 4)⟩,
  ⟨some 48, some (46, false), .ld (.t 47)⟩,
  ⟨some 49, some (46, false), .fld 1 (.t 4)⟩,
  ⟨some 50, some (46, false), .ld (.t 49)⟩,
  ⟨some 51, some (46, false), .bin .eql (.t 48) (.t 50)⟩,
  ⟨some 52, none, .pick (.t 46) (.c (.b true)) (.t 51)⟩]
def s76_9_5 : List O := [⟨some 53, none, .mov (.t 52)⟩,
  ⟨some 54, some (53, false), .fld 2 (.t 4)⟩,
  ⟨some 55, some (53, false), .ld (.t 54)⟩,
  ⟨some 56, some (53, false), .bin .lss (.t 55) (.c (.i .i64 0))⟩,
  ⟨some 57, none, .pick (.t 53) (.c (.b true)) (.t 56)⟩]
def s76_9_6 : List O := [⟨some 58, none, .mov (.t 57)⟩,
  ⟨some 59, some (58, false), .fld 2 (.t 4)⟩,
  ⟨some 60, some (58, false), .ld (.t 59)⟩,
  ⟨some 61, some (58, false), .bin .gtr (.t 60) (.c (.i .i64 23))⟩,
  ⟨some 62, none, .pick (.t 58) (.c (.b true)) (.t 61)⟩]
def s76_9_7 : List O := [⟨some 63, none, .mov (.t 62)⟩,
  ⟨some 64, some (63, false), .fld 3 (.t 4)⟩,
  ⟨some 65, some (63, false), .ld (.t 64)⟩,
  ⟨some 66, some (63, false), .bin .lss (.t 65) (.c (.i .i64 1))⟩,
  ⟨some 67, none, .pick (.t 63) (.c (.b true)) (.t 66)⟩]
def s76_9_8 : List O := [⟨some 68, none, .mov (.t 67)⟩,
  ⟨some 69, some (68, false), .fld 3 (.t 4)⟩,
  ⟨some 70, some (68, false), .ld (.t 69)⟩,
  ⟨some 71, some (68, false), .bin .gtr (.t 70) (.c (.i .i64 1000))⟩,
  ⟨some 72, none, .pick (.t 68) (.c (.b true)) (.t 71)⟩]
theorem r76_9_eq : r76_9 = s76_9_0 ++ (s76_9_1 ++ (s76_9_2 ++ (s76_9_3 ++ (s76_9_4 ++ (s76_9_5 ++ (s76_9_6 ++ (s76_9_7 ++ (s76_9_8)))))))) := rfl
theorem sg76_9_0 {h : H} {b q : Nat} {N : Int} {a : Arw} {t : List V} {T : List V → H → Prop} (tl : t.length = 100) (tb : nth t 1 = .p b 0) (tq : nth t 4 = .p q 0) (lN : ldV h (.p b 0) = some (.i .i64 N)) (x0 : ldV h (.p q 0) = some (.i .i64 a.f)) (x1 : ldV h (.p q 1) = some (.i .i64 a.t)) (x2 : ldV h (.p q 2) = some (.i .i64 a.r)) (x3 : ldV h (.p q 3) = some (.i .i64 a.w)) (hT : ∀ t', t'.length = 100 → (∀ j, j < 24 → nth t' j = nth t j) → nth t' 26 = .b (decide (a.f < 0)) → T t' h) : WL tblA s76_9_0 t h T := by
  by_cases c : a.f < 0
  · simp only [go_sem, ↓reduceIte, s76_9_0, tl, tb, tq, lN, x0, x1, x2, x3, c]
    exact hT _ (by simp only [upd_length, tl]) (fun j hj => by simp only [nth_upd]; repeat rw [if_neg (by omega)]) (by simp only [go_sem, ↓reduceIte, tl]; simp [c])
  · simp only [go_sem, ↓reduceIte, s76_9_0, tl, tb, tq, lN, x0, x1, x2, x3, c]
    exact hT _ (by simp only [upd_length, tl]) (fun j hj => by simp only [nth_upd]; repeat rw [if_neg (by omega)]) (by simp only [go_sem, ↓reduceIte, tl]; simp [c])
theorem sg76_9_1 {h : H} {b q : Nat} {N : Int} {a : Arw} {p : Bool} {t : List V} {T : List V → H → Prop} (tl : t.length = 100) (tb : nth t 1 = .p b 0) (tq : nth t 4 = .p q 0) (lN : ldV h (.p b 0) = some (.i .i64 N)) (x0 : ldV h (.p q 0) = some (.i .i64 a.f)) (x1 : ldV h (.p q 1) = some (.i .i64 a.t)) (x2 : ldV h (.p q 2) = some (.i .i64 a.r)) (x3 : ldV h (.p q 3) = some (.i .i64 a.w)) (hp : nth t 26 = .b p) (hT : ∀ t', t'.length = 100 → (∀ j, j < 24 → nth t' j = nth t j) → nth t' 33 = .b (p || decide (N ≤ a.f)) → T t' h) : WL tblA s76_9_1 t h T := by
  cases p
  · by_cases c : N ≤ a.f
    · simp only [go_sem, ↓reduceIte, s76_9_1, tl, tb, tq, lN, x0, x1, x2, x3, hp, c]
      exact hT _ (by simp only [upd_length, tl]) (fun j hj => by simp only [nth_upd]; repeat rw [if_neg (by omega)]) (by simp only [go_sem, ↓reduceIte, tl]; simp [c])
    · simp only [go_sem, ↓reduceIte, s76_9_1, tl, tb, tq, lN, x0, x1, x2, x3, hp, c]
      exact hT _ (by simp only [upd_length, tl]) (fun j hj => by simp only [nth_upd]; repeat rw [if_neg (by omega)]) (by simp only [go_sem, ↓reduceIte, tl]; simp [c])
  · simp only [go_sem, ↓reduceIte, s76_9_1, tl, tb, tq, lN, x0, x1, x2, x3, hp]
    exact hT _ (by simp only [upd_length, tl]) (fun j hj => by simp only [nth_upd]; repeat rw [if_neg (by omega)]) (by simp only [go_sem, ↓reduceIte, tl]; try simp)
theorem sg76_9_2 {h : H} {b q : Nat} {N : Int} {a : Arw} {p : Bool} {t : List V} {T : List V → H → Prop} (tl : t.length = 100) (tb : nth t 1 = .p b 0) (tq : nth t 4 = .p q 0) (lN : ldV h (.p b 0) = some (.i .i64 N)) (x0 : ldV h (.p q 0) = some (.i .i64 a.f)) (x1 : ldV h (.p q 1) = some (.i .i64 a.t)) (x2 : ldV h (.p q 2) = some (.i .i64 a.r)) (x3 : ldV h (.p q 3) = some (.i .i64 a.w)) (hp : nth t 33 = .b p) (hT : ∀ t', t'.length = 100 → (∀ j, j < 24 → nth t' j = nth t j) → nth t' 38 = .b (p || decide (a.t < 0)) → T t' h) : WL tblA s76_9_2 t h T := by
  cases p
  · by_cases c : a.t < 0
    · simp only [go_sem, ↓reduceIte, s76_9_2, tl, tb, tq, lN, x0, x1, x2, x3, hp, c]
      exact hT _ (by simp only [upd_length, tl]) (fun j hj => by simp only [nth_upd]; repeat rw [if_neg (by omega)]) (by simp only [go_sem, ↓reduceIte, tl]; simp [c])
    · simp only [go_sem, ↓reduceIte, s76_9_2, tl, tb, tq, lN, x0, x1, x2, x3, hp, c]
      exact hT _ (by simp only [upd_length, tl]) (fun j hj => by simp only [nth_upd]; repeat rw [if_neg (by omega)]) (by simp only [go_sem, ↓reduceIte, tl]; simp [c])
  · simp only [go_sem, ↓reduceIte, s76_9_2, tl, tb, tq, lN, x0, x1, x2, x3, hp]
    exact hT _ (by simp only [upd_length, tl]) (fun j hj => by simp only [nth_upd]; repeat rw [if_neg (by omega)]) (by simp only [go_sem, ↓reduceIte, tl]; try simp)
theorem sg76_9_3 {h : H} {b q : Nat} {N : Int} {a : Arw} {p : Bool} {t : List V} {T : List V → H → Prop} (tl : t.length = 100) (tb : nth t 1 = .p b 0) (tq : nth t 4 = .p q 0) (lN : ldV h (.p b 0) = some (.i .i64 N)) (x0 : ldV h (.p q 0) = some (.i .i64 a.f)) (x1 : ldV h (.p q 1) = some (.i .i64 a.t)) (x2 : ldV h (.p q 2) = some (.i .i64 a.r)) (x3 : ldV h (.p q 3) = some (.i .i64 a.w)) (hp : nth t 38 = .b p) (hT : ∀ t', t'.length = 100 → (∀ j, j < 24 → nth t' j = nth t j) → nth t' 45 = .b (p || decide (N ≤ a.t)) → T t' h) : WL tblA s76_9_3 t h T := by
  cases p
  · by_cases c : N ≤ a.t
    · simp only [go_sem, ↓reduceIte, s76_9_3, tl, tb, tq, lN, x0, x1, x2, x3, hp, c]
      exact hT _ (by simp only [upd_length, tl]) (fun j hj => by simp only [nth_upd]; repeat rw [if_neg (by omega)]) (by simp only [go_sem, ↓reduceIte, tl]; simp [c])
    · simp only [go_sem, ↓reduceIte, s76_9_3, tl, tb, tq, lN, x0, x1, x2, x3, hp, c]
      exact hT _ (by simp only [upd_length, tl]) (fun j hj => by simp only [nth_upd]; repeat rw [if_neg (by omega)]) (by simp only [go_sem, ↓reduceIte, tl]; simp [c])
  · simp only [go_sem, ↓reduceIte, s76_9_3, tl, tb, tq, lN, x0, x1, x2, x3, hp]
    exact hT _ (by simp only [upd_length, tl]) (fun j hj => by simp only [nth_upd]; repeat rw [if_neg (by omega)]) (by simp only [go_sem, ↓reduceIte, tl]; try simp)
theorem sg76_9_4 {h : H} {b q : Nat} {N : Int} {a : Arw} {p : Bool} {t : List V} {T : List V → H → Prop} (tl : t.length = 100) (tb : nth t 1 = .p b 0) (tq : nth t 4 = .p q 0) (lN : ldV h (.p b 0) = some (.i .i64 N)) (x0 : ldV h (.p q 0) = some (.i .i64 a.f)) (x1 : ldV h (.p q 1) = some (.i .i64 a.t)) (x2 : ldV h (.p q 2) = some (.i .i64 a.r)) (x3 : ldV h (.p q 3) = some (.i .i64 a.w)) (hp : nth t 45 = .b p) (hT : ∀ t', t'.length = 100 → (∀ j, j < 24 → nth t' j = nth t j) → nth t' 52 = .b (p || decide (a.f = a.t)) → T t' h) : WL tblA s76_9_4 t h T := by
  cases p
  · by_cases c : a.f = a.t
    · simp only [go_sem, ↓reduceIte, s76_9_4, tl, tb, tq, lN, x0, x1, x2, x3, hp, c]
      exact hT _ (by simp only [upd_length, tl]) (fun j hj => by simp only [nth_upd]; repeat rw [if_neg (by omega)]) (by simp only [go_sem, ↓reduceIte, tl]; simp [c])
    · simp only [go_sem, ↓reduceIte, s76_9_4, tl, tb, tq, lN, x0, x1, x2, x3, hp, c]
      exact hT _ (by simp only [upd_length, tl]) (fun j hj => by simp only [nth_upd]; repeat rw [if_neg (by omega)]) (by simp only [go_sem, ↓reduceIte, tl]; simp [c])
  · simp only [go_sem, ↓reduceIte, s76_9_4, tl, tb, tq, lN, x0, x1, x2, x3, hp]
    exact hT _ (by simp only [upd_length, tl]) (fun j hj => by simp only [nth_upd]; repeat rw [if_neg (by omega)]) (by simp only [go_sem, ↓reduceIte, tl]; try simp)
theorem sg76_9_5 {h : H} {b q : Nat} {N : Int} {a : Arw} {p : Bool} {t : List V} {T : List V → H → Prop} (tl : t.length = 100) (tb : nth t 1 = .p b 0) (tq : nth t 4 = .p q 0) (lN : ldV h (.p b 0) = some (.i .i64 N)) (x0 : ldV h (.p q 0) = some (.i .i64 a.f)) (x1 : ldV h (.p q 1) = some (.i .i64 a.t)) (x2 : ldV h (.p q 2) = some (.i .i64 a.r)) (x3 : ldV h (.p q 3) = some (.i .i64 a.w)) (hp : nth t 52 = .b p) (hT : ∀ t', t'.length = 100 → (∀ j, j < 24 → nth t' j = nth t j) → nth t' 57 = .b (p || decide (a.r < 0)) → T t' h) : WL tblA s76_9_5 t h T := by
  cases p
  · by_cases c : a.r < 0
    · simp only [go_sem, ↓reduceIte, s76_9_5, tl, tb, tq, lN, x0, x1, x2, x3, hp, c]
      exact hT _ (by simp only [upd_length, tl]) (fun j hj => by simp only [nth_upd]; repeat rw [if_neg (by omega)]) (by simp only [go_sem, ↓reduceIte, tl]; simp [c])
    · simp only [go_sem, ↓reduceIte, s76_9_5, tl, tb, tq, lN, x0, x1, x2, x3, hp, c]
      exact hT _ (by simp only [upd_length, tl]) (fun j hj => by simp only [nth_upd]; repeat rw [if_neg (by omega)]) (by simp only [go_sem, ↓reduceIte, tl]; simp [c])
  · simp only [go_sem, ↓reduceIte, s76_9_5, tl, tb, tq, lN, x0, x1, x2, x3, hp]
    exact hT _ (by simp only [upd_length, tl]) (fun j hj => by simp only [nth_upd]; repeat rw [if_neg (by omega)]) (by simp only [go_sem, ↓reduceIte, tl]; try simp)
theorem sg76_9_6 {h : H} {b q : Nat} {N : Int} {a : Arw} {p : Bool} {t : List V} {T : List V → H → Prop} (tl : t.length = 100) (tb : nth t 1 = .p b 0) (tq : nth t 4 = .p q 0) (lN : ldV h (.p b 0) = some (.i .i64 N)) (x0 : ldV h (.p q 0) = some (.i .i64 a.f)) (x1 : ldV h (.p q 1) = some (.i .i64 a.t)) (x2 : ldV h (.p q 2) = some (.i .i64 a.r)) (x3 : ldV h (.p q 3) = some (.i .i64 a.w)) (hp : nth t 57 = .b p) (hT : ∀ t', t'.length = 100 → (∀ j, j < 24 → nth t' j = nth t j) → nth t' 62 = .b (p || decide (23 < a.r)) → T t' h) : WL tblA s76_9_6 t h T := by
  cases p
  · by_cases c : 23 < a.r
    · simp only [go_sem, ↓reduceIte, s76_9_6, tl, tb, tq, lN, x0, x1, x2, x3, hp, c]
      exact hT _ (by simp only [upd_length, tl]) (fun j hj => by simp only [nth_upd]; repeat rw [if_neg (by omega)]) (by simp only [go_sem, ↓reduceIte, tl]; simp [c])
    · simp only [go_sem, ↓reduceIte, s76_9_6, tl, tb, tq, lN, x0, x1, x2, x3, hp, c]
      exact hT _ (by simp only [upd_length, tl]) (fun j hj => by simp only [nth_upd]; repeat rw [if_neg (by omega)]) (by simp only [go_sem, ↓reduceIte, tl]; simp [c])
  · simp only [go_sem, ↓reduceIte, s76_9_6, tl, tb, tq, lN, x0, x1, x2, x3, hp]
    exact hT _ (by simp only [upd_length, tl]) (fun j hj => by simp only [nth_upd]; repeat rw [if_neg (by omega)]) (by simp only [go_sem, ↓reduceIte, tl]; try simp)
theorem sg76_9_7 {h : H} {b q : Nat} {N : Int} {a : Arw} {p : Bool} {t : List V} {T : List V → H → Prop} (tl : t.length = 100) (tb : nth t 1 = .p b 0) (tq : nth t 4 = .p q 0) (lN : ldV h (.p b 0) = some (.i .i64 N)) (x0 : ldV h (.p q 0) = some (.i .i64 a.f)) (x1 : ldV h (.p q 1) = some (.i .i64 a.t)) (x2 : ldV h (.p q 2) = some (.i .i64 a.r)) (x3 : ldV h (.p q 3) = some (.i .i64 a.w)) (hp : nth t 62 = .b p) (hT : ∀ t', t'.length = 100 → (∀ j, j < 24 → nth t' j = nth t j) → nth t' 67 = .b (p || decide (a.w < 1)) → T t' h) : WL tblA s76_9_7 t h T := by
  cases p
  · by_cases c : a.w < 1
    · simp only [go_sem, ↓reduceIte, s76_9_7, tl, tb, tq, lN, x0, x1, x2, x3, hp, c]
      exact hT _ (by simp only [upd_length, tl]) (fun j hj => by simp only [nth_upd]; repeat rw [if_neg (by omega)]) (by simp only [go_sem, ↓reduceIte, tl]; simp [c])
    · simp only [go_sem, ↓reduceIte, s76_9_7, tl, tb, tq, lN, x0, x1, x2, x3, hp, c]
      exact hT _ (by simp only [upd_length, tl]) (fun j hj => by simp only [nth_upd]; repeat rw [if_neg (by omega)]) (by simp only [go_sem, ↓reduceIte, tl]; simp [c])
  · simp only [go_sem, ↓reduceIte, s76_9_7, tl, tb, tq, lN, x0, x1, x2, x3, hp]
    exact hT _ (by simp only [upd_length, tl]) (fun j hj => by simp only [nth_upd]; repeat rw [if_neg (by omega)]) (by simp only [go_sem, ↓reduceIte, tl]; try simp)
theorem sg76_9_8 {h : H} {b q : Nat} {N : Int} {a : Arw} {p : Bool} {t : List V} {T : List V → H → Prop} (tl : t.length = 100) (tb : nth t 1 = .p b 0) (tq : nth t 4 = .p q 0) (lN : ldV h (.p b 0) = some (.i .i64 N)) (x0 : ldV h (.p q 0) = some (.i .i64 a.f)) (x1 : ldV h (.p q 1) = some (.i .i64 a.t)) (x2 : ldV h (.p q 2) = some (.i .i64 a.r)) (x3 : ldV h (.p q 3) = some (.i .i64 a.w)) (hp : nth t 67 = .b p) (hT : ∀ t', t'.length = 100 → (∀ j, j < 24 → nth t' j = nth t j) → nth t' 72 = .b (p || decide (1000 < a.w)) → T t' h) : WL tblA s76_9_8 t h T := by
  cases p
  · by_cases c : 1000 < a.w
    · simp only [go_sem, ↓reduceIte, s76_9_8, tl, tb, tq, lN, x0, x1, x2, x3, hp, c]
      exact hT _ (by simp only [upd_length, tl]) (fun j hj => by simp only [nth_upd]; repeat rw [if_neg (by omega)]) (by simp only [go_sem, ↓reduceIte, tl]; simp [c])
    · simp only [go_sem, ↓reduceIte, s76_9_8, tl, tb, tq, lN, x0, x1, x2, x3, hp, c]
      exact hT _ (by simp only [upd_length, tl]) (fun j hj => by simp only [nth_upd]; repeat rw [if_neg (by omega)]) (by simp only [go_sem, ↓reduceIte, tl]; simp [c])
  · simp only [go_sem, ↓reduceIte, s76_9_8, tl, tb, tq, lN, x0, x1, x2, x3, hp]
    exact hT _ (by simp only [upd_length, tl]) (fun j hj => by simp only [nth_upd]; repeat rw [if_neg (by omega)]) (by simp only [go_sem, ↓reduceIte, tl]; try simp)
theorem ops76_9 {h : H} {b q : Nat} {N : Int} {a : Arw} {t : List V} {Q : Out → List V → H → Prop} (tl : t.length = 100) (tb : nth t 1 = .p b 0) (tq : nth t 4 = .p q 0) (lN : ldV h (.p b 0) = some (.i .i64 N)) (x0 : ldV h (.p q 0) = some (.i .i64 a.f)) (x1 : ldV h (.p q 1) = some (.i .i64 a.t)) (x2 : ldV h (.p q 2) = some (.i .i64 a.r)) (x3 : ldV h (.p q 3) = some (.i .i64 a.w)) (hQ : ∀ t', t'.length = 100 → (∀ j, j < 24 → nth t' j = nth t j) → nth t' 72 = .b ((((((((decide (a.f < 0) || decide (N ≤ a.f)) || decide (a.t < 0)) || decide (N ≤ a.t)) || decide (a.f = a.t)) || decide (a.r < 0)) || decide (23 < a.r)) || decide (a.w < 1)) || decide (1000 < a.w)) → Q .norm t' h) : WL tblA r76_9 t h (Kops Q) := by
  rw [r76_9_eq]
  rw [WL_append]
  refine sg76_9_0 tl tb tq lN x0 x1 x2 x3 ?_
  intro t0 l0 k0 v0
  rw [WL_append]
  refine sg76_9_1 l0 ((k0 1 (by omega)).trans tb) ((k0 4 (by omega)).trans tq) lN x0 x1 x2 x3 v0 ?_
  intro t1 l1 k1 v1
  replace k1 : ∀ j, j < 24 → nth t1 j = nth t j := fun j hj => (k1 j hj).trans (k0 j hj)
  rw [WL_append]
  refine sg76_9_2 l1 ((k1 1 (by omega)).trans tb) ((k1 4 (by omega)).trans tq) lN x0 x1 x2 x3 v1 ?_
  intro t2 l2 k2 v2
  replace k2 : ∀ j, j < 24 → nth t2 j = nth t j := fun j hj => (k2 j hj).trans (k1 j hj)
  rw [WL_append]
  refine sg76_9_3 l2 ((k2 1 (by omega)).trans tb) ((k2 4 (by omega)).trans tq) lN x0 x1 x2 x3 v2 ?_
  intro t3 l3 k3 v3
  replace k3 : ∀ j, j < 24 → nth t3 j = nth t j := fun j hj => (k3 j hj).trans (k2 j hj)
  rw [WL_append]
  refine sg76_9_4 l3 ((k3 1 (by omega)).trans tb) ((k3 4 (by omega)).trans tq) lN x0 x1 x2 x3 v3 ?_
  intro t4 l4 k4 v4
  replace k4 : ∀ j, j < 24 → nth t4 j = nth t j := fun j hj => (k4 j hj).trans (k3 j hj)
  rw [WL_append]
  refine sg76_9_5 l4 ((k4 1 (by omega)).trans tb) ((k4 4 (by omega)).trans tq) lN x0 x1 x2 x3 v4 ?_
  intro t5 l5 k5 v5
  replace k5 : ∀ j, j < 24 → nth t5 j = nth t j := fun j hj => (k5 j hj).trans (k4 j hj)
  rw [WL_append]
  refine sg76_9_6 l5 ((k5 1 (by omega)).trans tb) ((k5 4 (by omega)).trans tq) lN x0 x1 x2 x3 v5 ?_
  intro t6 l6 k6 v6
  replace k6 : ∀ j, j < 24 → nth t6 j = nth t j := fun j hj => (k6 j hj).trans (k5 j hj)
  rw [WL_append]
  refine sg76_9_7 l6 ((k6 1 (by omega)).trans tb) ((k6 4 (by omega)).trans tq) lN x0 x1 x2 x3 v6 ?_
  intro t7 l7 k7 v7
  replace k7 : ∀ j, j < 24 → nth t7 j = nth t j := fun j hj => (k7 j hj).trans (k6 j hj)
  refine sg76_9_8 l7 ((k7 1 (by omega)).trans tb) ((k7 4 (by omega)).trans tq) lN x0 x1 x2 x3 v7 ?_
  intro t8 l8 k8 v8
  replace k8 : ∀ j, j < 24 → nth t8 j = nth t j := fun j hj => (k8 j hj).trans (k7 j hj)
  exact hQ t8 l8 k8 v8


/-! ### What a relation must be -/
def OkA (N : Int) (a : Arw) : Prop := 0 ≤ a.f ∧ a.f < N ∧ 0 ≤ a.t ∧ a.t < N ∧ a.f ≠ a.t ∧ 0 ≤ a.r ∧ a.r ≤ 23 ∧ 1 ≤ a.w ∧ a.w ≤ 1000
instance (N : Int) (a : Arw) : Decidable (OkA N a) := by unfold OkA; infer_instance
def GoodR (N : Int) (rs : List Arw) : Prop := (∀ a ∈ rs, OkA N a) ∧ rs.Pairwise ltA
instance (N : Int) (rs : List Arw) : Decidable (GoodR N rs) := by unfold GoodR; infer_instance
def checkS (N : Int) (rs : List Arw) : Int := if 24 < N then 2 else if N < 0 then 1 else if GoodR N rs then 0 else 1
theorem ltA_trans {a b c : Arw} (h1 : ltA a b) (h2 : ltA b c) : ltA a c := by unfold ltA at *; omega
theorem bad66 {N : Int} {a : Arw} : (!inB a.f 0 (N - 1) || !inB a.t 0 (N - 1) || decide (a.f = a.t) || !inB a.r 0 23 || !inB a.w 1 1000) = !decide (OkA N a) := by
  have : decide (OkA N a) = decide ((0 ≤ a.f ∧ a.f ≤ N - 1) ∧ (0 ≤ a.t ∧ a.t ≤ N - 1) ∧ ¬ a.f = a.t ∧ (0 ≤ a.r ∧ a.r ≤ 23) ∧ (1 ≤ a.w ∧ a.w ≤ 1000)) := by rw [decide_eq_decide]; unfold OkA; omega
  rw [this]
  simp only [inB, Bool.decide_and, decide_not, Bool.not_and, Bool.not_not, Bool.or_assoc]
theorem bad76 {N : Int} {a : Arw} : (decide (a.f < 0) || decide (N ≤ a.f) || decide (a.t < 0) || decide (N ≤ a.t) || decide (a.f = a.t) || decide (a.r < 0) || decide (23 < a.r) || decide (a.w < 1) || decide (1000 < a.w)) = !decide (OkA N a) := by
  have : decide (OkA N a) = decide (¬ a.f < 0 ∧ ¬ N ≤ a.f ∧ ¬ a.t < 0 ∧ ¬ N ≤ a.t ∧ ¬ a.f = a.t ∧ ¬ a.r < 0 ∧ ¬ 23 < a.r ∧ ¬ a.w < 1 ∧ ¬ 1000 < a.w) := by rw [decide_eq_decide]; unfold OkA; omega
  rw [this]
  simp only [Bool.decide_and, decide_not, Bool.not_and, Bool.not_not, Bool.or_assoc]
theorem good_not_ok {N : Int} {rs : List Arw} {i : Nat} {a : Arw} (hx : rs[i]? = some a) (h : ¬ OkA N a) : ¬ GoodR N rs := fun g => h (g.1 a (List.mem_of_getElem? hx))
theorem good_not_lt {N : Int} {rs : List Arw} {i : Nat} {a b : Arw} (hb : rs[i]? = some b) (hx : rs[i + 1]? = some a) (h : ¬ ltA b a) : ¬ GoodR N rs := by
  intro g
  obtain ⟨h1, e1⟩ := List.getElem?_eq_some_iff.1 hb
  obtain ⟨h2, e2⟩ := List.getElem?_eq_some_iff.1 hx
  have := List.pairwise_iff_getElem.1 g.2 i (i + 1) h1 h2 (by omega)
  rw [e1, e2] at this
  exact h this
theorem good_step {N : Int} {rs : List Arw} {i : Nat} {a : Arw} (g : GoodR N (rs.take i)) (hx : rs[i]? = some a) (ho : OkA N a) (hl : ∀ j b, i = j + 1 → rs[j]? = some b → ltA b a) : GoodR N (rs.take (i + 1)) := by
  rw [take_succ' hx]
  refine ⟨fun x hm => ?_, ?_⟩
  · rcases List.mem_append.1 hm with hm | hm
    · exact g.1 x hm
    · simp at hm; subst hm; exact ho
  · refine List.pairwise_append.2 ⟨g.2, by simp, fun x hm y hy => ?_⟩
    simp at hy; subst hy
    cases i with
    | zero => simp at hm
    | succ j =>
      have hj : j < rs.length := by have := (List.getElem?_eq_some_iff.1 hx).1; omega
      have hb : rs[j]? = some rs[j] := List.getElem?_eq_getElem hj
      have hlt := hl j _ rfl hb
      rw [take_succ' hb] at hm g
      rcases List.mem_append.1 hm with hm | hm
      · exact ltA_trans ((List.pairwise_append.1 g.2).2.2 x hm _ (by simp)) hlt
      · simp at hm; subst hm; exact hlt
theorem good_nil (N : Int) : GoodR N [] := ⟨by simp, by simp⟩

theorem rel_blk (h : H) (N : Int) (v : V) : Ext h (h.new (.cells [.i .i64 N, v])) ∧ (h.new (.cells [.i .i64 N, v])).get h.next = some (.cells [.i .i64 N, v]) :=
  ⟨(Ext.refl h).new _, by rw [H.get_new, if_pos rfl]⟩
theorem Ext.get {h h' : H} (e : Ext h h') {b : Nat} {x : Blk} (hb : b < h.next) (g : h.get b = some x) : h'.get b = some x := (e.same b hb).trans g

theorem t66 : tblA 66 = some a66 := by kernel_rfl
theorem fn_Check {h : H} {N : Int} {v : V} {rs : List Arw} (hs : Arrs h v rs) (hn : rs.length ≤ 1000000) : WC tblA (.fn 66 [] []) [.agg [.i .i64 N, v]] h fun u h' => Ext h h' ∧ u = .i .i64 (checkS N rs) := by
  refine (WC_in t66).2 ?_
  obtain ⟨e0, g0⟩ := rel_blk h N v
  simp only [go_sem, ↓reduceIte, r66_0]
  generalize hb : h.next = b at *
  generalize hh : h.new (.cells [.i .i64 N, v]) = h0 at *
  have hb0 : b < h0.next := by rw [← hh, ← hb]; simp
  have l0 : ldV h0 (.p b 0) = some (.i .i64 N) := blk_ld g0 rfl
  have l1 : ldV h0 (.p b 1) = some v := blk_ld g0 rfl
  by_cases c1 : 24 < N
  · simp only [go_sem, ↓reduceIte, r66_1, r66_2, l0, c1]
    exact ⟨e0, by simp [checkS, c1]⟩
  by_cases c2 : N < 0
  · simp only [go_sem, ↓reduceIte, r66_1, r66_3, r66_4, l0, c1, c2]
    exact ⟨e0, by simp [checkS, c1, c2]⟩
  have hw : IntKind.i64.wrap (N - 1) = N - 1 := wrap_in (by omega) (by omega)
  have hck : checkS N rs = if GoodR N rs then 0 else 1 := by simp only [checkS, if_neg c1, if_neg c2]
  have hs0 := hs.ext e0
  simp only [go_sem, ↓reduceIte, r66_1, r66_3, r66_5, l0, l1, c1, c2, hs0.len]
  refine W_while (fun k t h' => ∃ i, k = rs.length - i ∧ i ≤ rs.length ∧ t.length = 68 ∧ nth t 1 = .p b 0 ∧ nth t 12 = v ∧ nth t 13 = .i .i64 (rs.length : Int) ∧ nth t 14 = .i .i64 (i : Int) ∧ GoodR N (rs.take i) ∧ Ext h0 h') ?_ rs.length ?_
  · rintro k t h' ⟨i, rfl, hi, tl, t1, t12, t13, t14, hg, e1⟩
    unfold b66_0
    by_cases hlt : i < rs.length
    · have hlt' : (i : Int) < (rs.length : Int) := by omega
      obtain ⟨a, hx⟩ : ∃ a, rs[i]? = some a := ⟨_, List.getElem?_eq_getElem hlt⟩
      have s1 := hs0.ext e1
      obtain ⟨h2, q1, e2, g2, n2⟩ := st_arw h' (.i .i64 0) (.i .i64 0) (.i .i64 0) (.i .i64 0) a
      have gb := (e1.trans e2).get hb0 g0
      obtain ⟨x0, x1, x2, x3, x4⟩ := arw_lds g2
      simp only [go_sem, ↓reduceIte, r66_6, r66_7, tl, t1, t12, t13, t14, hlt', s1.ix hlt, s1.ldn hx, q1]
      refine ops66_8 (b := b) (q := h'.next) (N := N) (a := a) (by simp only [go_sem, ↓reduceIte, tl]) (by simp only [go_sem, ↓reduceIte, t1]) (by simp only [go_sem, ↓reduceIte, tl]) (blk_ld gb rfl) x0 x1 x2 x3 hw ?_
      intro t' tl' hk' r53
      rw [bad66] at r53
      have k1 : nth t' 1 = .p b 0 := by rw [hk' 1 (by omega)]; simp only [go_sem, ↓reduceIte, t1]
      have k3 : nth t' 3 = .i .i64 (i : Int) := by rw [hk' 3 (by omega)]; simp only [go_sem, ↓reduceIte, tl]
      have k4 : nth t' 4 = .p h'.next 0 := by rw [hk' 4 (by omega)]; simp only [go_sem, ↓reduceIte, tl]
      have k12 : nth t' 12 = v := by rw [hk' 12 (by omega)]; simp only [go_sem, ↓reduceIte, t12]
      have k13 : nth t' 13 = .i .i64 (rs.length : Int) := by rw [hk' 13 (by omega)]; simp only [go_sem, ↓reduceIte, t13]
      have k14 : nth t' 14 = .i .i64 (i : Int) := by rw [hk' 14 (by omega)]; simp only [go_sem, ↓reduceIte, t14]
      by_cases ho : OkA N a
      · cases i with
        | zero =>
          have z : ¬ (0 : Int) < ((0 : Nat) : Int) := by omega
          simp only [go_sem, ↓reduceIte, r66_10, r66_12, tl', k1, k3, k4, k12, k13, k14, r53, ho, z]
          refine ⟨rs.length - 1, by omega, 1, rfl, by omega, ?_, good_step (i := 0) (by simpa using hg) hx ho (fun j b hj => by omega), e1.trans e2⟩
          rw [wrap_in (by omega) (by omega)]; rfl
        | succ j =>
          have z : (0 : Int) < ((j + 1 : Nat) : Int) := by omega
          have hj : j < rs.length := by omega
          obtain ⟨b', hbx⟩ : ∃ a, rs[j]? = some a := ⟨_, List.getElem?_eq_getElem hj⟩
          have hw2 : IntKind.i64.wrap (((j + 1 : Nat) : Int) - 1) = (j : Int) := by
            rw [wrap_in (by omega) (by omega)]; omega
          have s2 := s1.ext e2
          simp only [go_sem, ↓reduceIte, r66_10, tl', k1, k3, k4, k12, k13, k14, r53, ho, z, blk_ld (i := 1) gb rfl, hw2, s2.ix hj, s2.ldn hbx, x4]
          refine fn_compare.mono ?_
          rintro _ h3 ⟨e3, r, rfl, hr⟩
          have e3' := e3.back
          by_cases hlt3 : ltA b' a
          · have hr' : ¬ 0 ≤ r := by rw [hr]; simp [hlt3]
            simp only [go_sem, ↓reduceIte, r66_12, tl', k1, k12, k13, k14, hr', wrap_succ (show j + 1 < 1000000000 by omega)]
            refine ⟨rs.length - (j + 1 + 1), by omega, j + 1 + 1, rfl, by omega, rfl, good_step hg hx ho (fun j' b'' hj' hbb => ?_), e1.trans (e2.trans e3')⟩
            obtain rfl : j' = j := by omega
            rw [hbx] at hbb; cases hbb; exact hlt3
          · have hr' : 0 ≤ r := hr.2 hlt3
            simp only [go_sem, ↓reduceIte, r66_11, tl', hr']
            refine ⟨e0.trans (e1.trans (e2.trans e3')), ?_⟩
            rw [hck, if_neg (good_not_lt hbx hx hlt3)]
      · simp only [go_sem, ↓reduceIte, r66_9, tl', r53, ho]
        refine ⟨e0.trans (e1.trans e2), ?_⟩
        rw [hck, if_neg (good_not_ok hx ho)]
    · have hlt' : ¬ (i : Int) < (rs.length : Int) := by omega
      simp only [go_sem, ↓reduceIte, r66_6, r66_13, tl, t12, t13, t14, hlt']
      rw [List.take_of_length_le (by omega)] at hg
      exact ⟨e0.trans e1, by rw [hck, if_pos hg]⟩
  · refine ⟨0, by omega, by omega, ?_⟩
    simp only [go_sem, ↓reduceIte]
    exact ⟨good_nil N, .refl h0⟩

theorem ops76_13 {h : H} {q q' : Nat} {a b : Arw} {t : List V} {Q : Out → List V → H → Prop} (tl : t.length = 100) (tq : nth t 4 = .p q 0) (tq' : nth t 5 = .p q' 0)
    (x0 : ldV h (.p q 0) = some (.i .i64 a.f)) (x1 : ldV h (.p q 1) = some (.i .i64 a.t)) (y0 : ldV h (.p q' 0) = some (.i .i64 b.f)) (y1 : ldV h (.p q' 1) = some (.i .i64 b.t))
    (hQ : ∀ t', t'.length = 100 → (∀ j, j < 5 → nth t' j = nth t j) → nth t' 99 = .b (!decide (ltA b a)) → Q .norm t' h) : WL tblA r76_13 t h (Kops Q) := by
  by_cases d1 : a.f < b.f
  · have hl : ¬ ltA b a := by unfold ltA; omega
    simp only [go_sem, ↓reduceIte, r76_13, tl, tq, tq', x0, x1, y0, y1, d1]
    exact hQ _ (by simp only [upd_length, tl]) (fun j hj => by simp only [nth_upd]; repeat rw [if_neg (by omega)]) (by simp only [go_sem, ↓reduceIte, tl, hl])
  · by_cases d2 : b.f = a.f
    · by_cases d3 : a.t ≤ b.t
      · have hl : ¬ ltA b a := by unfold ltA; omega
        simp only [go_sem, ↓reduceIte, r76_13, tl, tq, tq', x0, x1, y0, y1, d1, d2, d3, Int.lt_irrefl]
        exact hQ _ (by simp only [upd_length, tl]) (fun j hj => by simp only [nth_upd]; repeat rw [if_neg (by omega)]) (by simp only [go_sem, ↓reduceIte, tl, hl])
      · have hl : ltA b a := by unfold ltA; omega
        simp only [go_sem, ↓reduceIte, r76_13, tl, tq, tq', x0, x1, y0, y1, d1, d2, d3, Int.lt_irrefl]
        exact hQ _ (by simp only [upd_length, tl]) (fun j hj => by simp only [nth_upd]; repeat rw [if_neg (by omega)]) (by simp only [go_sem, ↓reduceIte, tl, hl])
    · have hl : ltA b a := by unfold ltA; omega
      simp only [go_sem, ↓reduceIte, r76_13, tl, tq, tq', x0, x1, y0, y1, d1, d2]
      exact hQ _ (by simp only [upd_length, tl]) (fun j hj => by simp only [nth_upd]; repeat rw [if_neg (by omega)]) (by simp only [go_sem, ↓reduceIte, tl, hl])
theorem t76 : tblA 76 = some a76 := by kernel_rfl
theorem fn_refCheck {h : H} {N : Int} {v : V} {rs : List Arw} (hs : Arrs h v rs) (hn : rs.length ≤ 1000000) : WC tblA (.fn 76 [] []) [.agg [.i .i64 N, v]] h fun u h' => Ext h h' ∧ u = .i .i64 (checkS N rs) := by
  refine (WC_in t76).2 ?_
  obtain ⟨e0, g0⟩ := rel_blk h N v
  simp only [go_sem, ↓reduceIte, r76_0]
  generalize hb : h.next = b at *
  generalize hh : h.new (.cells [.i .i64 N, v]) = h0 at *
  have hb0 : b < h0.next := by rw [← hh, ← hb]; simp
  have l0 : ldV h0 (.p b 0) = some (.i .i64 N) := blk_ld g0 rfl
  have l1 : ldV h0 (.p b 1) = some v := blk_ld g0 rfl
  by_cases c1 : 24 < N
  · simp only [go_sem, ↓reduceIte, r76_1, r76_2, l0, c1]
    exact ⟨e0, by simp [checkS, c1]⟩
  by_cases c2 : N < 0
  · simp only [go_sem, ↓reduceIte, r76_1, r76_3, r76_4, l0, c1, c2]
    exact ⟨e0, by simp [checkS, c1, c2]⟩
  have hck : checkS N rs = if GoodR N rs then 0 else 1 := by simp only [checkS, if_neg c1, if_neg c2]
  have hs0 := hs.ext e0
  simp only [go_sem, ↓reduceIte, r76_1, r76_3, r76_5, l0, l1, c1, c2]
  refine W_while (fun k t h' => ∃ i, k = rs.length - i ∧ i ≤ rs.length ∧ t.length = 100 ∧ nth t 1 = .p b 0 ∧ nth t 3 = .i .i64 (i : Int) ∧ GoodR N (rs.take i) ∧ Ext h0 h') ?_ rs.length ?_
  · rintro k t h' ⟨i, rfl, hi, tl, t1, t3, hg, e1⟩
    unfold b76_0
    have gb1 := e1.get hb0 g0
    have m1 : ldV h' (.p b 1) = some v := blk_ld gb1 rfl
    have s1 := hs0.ext e1
    by_cases hlt : i < rs.length
    · have hlt' : (i : Int) < (rs.length : Int) := by omega
      obtain ⟨a, hx⟩ : ∃ a, rs[i]? = some a := ⟨_, List.getElem?_eq_getElem hlt⟩
      obtain ⟨h2, q1, e2, g2, n2⟩ := st_arw h' (.i .i64 0) (.i .i64 0) (.i .i64 0) (.i .i64 0) a
      have gb := (e1.trans e2).get hb0 g0
      obtain ⟨x0, x1, x2, x3, x4⟩ := arw_lds g2
      simp only [go_sem, ↓reduceIte, r76_6, r76_8, tl, t1, t3, m1, s1.len, hlt', s1.ix hlt, s1.ldn hx, q1]
      refine ops76_9 (b := b) (q := h'.next) (N := N) (a := a) (by simp only [go_sem, ↓reduceIte, tl]) (by simp only [go_sem, ↓reduceIte, t1]) (by simp only [go_sem, ↓reduceIte, tl]) (blk_ld gb rfl) x0 x1 x2 x3 ?_
      intro t' tl' hk' r72
      rw [bad76] at r72
      have k1 : nth t' 1 = .p b 0 := by rw [hk' 1 (by omega)]; simp only [go_sem, ↓reduceIte, t1]
      have k3 : nth t' 3 = .i .i64 (i : Int) := by rw [hk' 3 (by omega)]; simp only [go_sem, ↓reduceIte, t3]
      have k4 : nth t' 4 = .p h'.next 0 := by rw [hk' 4 (by omega)]; simp only [go_sem, ↓reduceIte, tl]
      by_cases ho : OkA N a
      · cases i with
        | zero =>
          have z : ¬ (0 : Int) < ((0 : Nat) : Int) := by omega
          simp only [go_sem, ↓reduceIte, r76_11, r76_7, tl', k1, k3, k4, r72, ho, z]
          refine ⟨rs.length - 1, by omega, 1, rfl, by omega, ?_, good_step (i := 0) (by simpa using hg) hx ho (fun j b hj => by omega), e1.trans e2⟩
          rw [wrap_in (by omega) (by omega)]; rfl
        | succ j =>
          have z : (0 : Int) < ((j + 1 : Nat) : Int) := by omega
          have hj : j < rs.length := by omega
          obtain ⟨b', hbx⟩ : ∃ a, rs[j]? = some a := ⟨_, List.getElem?_eq_getElem hj⟩
          have hw2 : IntKind.i64.wrap (((j + 1 : Nat) : Int) - 1) = (j : Int) := by
            rw [wrap_in (by omega) (by omega)]; omega
          have s2 := s1.ext e2
          obtain ⟨h3, q3, e3, g3, n3⟩ := st_arw h2 (.i .i64 0) (.i .i64 0) (.i .i64 0) (.i .i64 0) b'
          obtain ⟨y0, y1, _, _, _⟩ := arw_lds g3
          have g2' := e3.get (by omega) g2
          obtain ⟨x0, x1, _, _, _⟩ := arw_lds g2'
          simp only [go_sem, ↓reduceIte, r76_11, r76_12, tl', k1, k3, k4, r72, ho, z, blk_ld (i := 1) gb rfl, hw2, s2.ix hj, s2.ldn hbx, q3]
          refine ops76_13 (q := h'.next) (q' := h2.next) (a := a) (b := b') (by simp only [go_sem, ↓reduceIte, tl']) (by simp only [go_sem, ↓reduceIte, k4]) (by simp only [go_sem, ↓reduceIte, tl']) x0 x1 y0 y1 ?_
          intro t'' l'' f'' v''
          have k1 : nth t'' 1 = .p b 0 := by rw [f'' 1 (by omega)]; simp only [go_sem, ↓reduceIte, k1]
          have k3 : nth t'' 3 = .i .i64 ((j + 1 : Nat) : Int) := by rw [f'' 3 (by omega)]; simp only [go_sem, ↓reduceIte, k3]
          by_cases hlt3 : ltA b' a
          · simp only [go_sem, ↓reduceIte, r76_7, l'', k1, k3, v'', hlt3, wrap_succ (show j + 1 < 1000000000 by omega)]
            refine ⟨rs.length - (j + 1 + 1), by omega, j + 1 + 1, rfl, by omega, rfl, good_step hg hx ho (fun j' b'' hj' hbb => ?_), e1.trans (e2.trans e3)⟩
            obtain rfl : j' = j := by omega
            rw [hbx] at hbb; cases hbb; exact hlt3
          · simp only [go_sem, ↓reduceIte, r76_14, l'', v'', hlt3]
            refine ⟨e0.trans (e1.trans (e2.trans e3)), ?_⟩
            rw [hck, if_neg (good_not_lt hbx hx hlt3)]
      · simp only [go_sem, ↓reduceIte, r76_10, tl', r72, ho]
        refine ⟨e0.trans (e1.trans e2), ?_⟩
        rw [hck, if_neg (good_not_ok hx ho)]
    · have hlt' : ¬ (i : Int) < (rs.length : Int) := by omega
      simp only [go_sem, ↓reduceIte, r76_6, r76_15, tl, t1, t3, m1, s1.len, hlt']
      rw [List.take_of_length_le (by omega)] at hg
      exact ⟨e0.trans e1, by rw [hck, if_pos hg]⟩
  · refine ⟨0, by omega, by omega, ?_⟩
    simp only [go_sem, ↓reduceIte]
    exact ⟨good_nil N, .refl h0⟩

end Go.Air
