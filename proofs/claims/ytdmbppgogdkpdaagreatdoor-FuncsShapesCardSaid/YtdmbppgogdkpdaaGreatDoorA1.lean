/-
  The names and numbers of arguments of all functions, as the program and as the document have them: no program in sight.
-/
namespace Go.Proofs.YtdmbppgogdkpdaaGreatDoor
def isIn (n : List UInt8) : List (List UInt8) → Bool
  | [] => false
  | x :: l => n == x || isIn n l
theorem isIn_mem {n : List UInt8} : ∀ {l : List (List UInt8)}, isIn n l = true ↔ n ∈ l
  | [] => by simp [isIn]
  | x :: l => by simp [isIn, isIn_mem (l := l)]
def namesMath : List (List UInt8) := [[65, 66, 83], [65, 86, 69, 82, 65, 71, 69], [67, 79, 85, 78, 84], [67, 79, 85, 78, 84, 65], [67, 79, 85, 78, 84, 73, 70], [73, 78, 84], [76, 65, 82, 71, 69], [77, 65, 88], [77, 69, 68, 73, 65, 78], [77, 73, 78], [77, 79, 68], [80, 79, 87, 69, 82], [80, 82, 79, 68, 85, 67, 84], [82, 79, 85, 78, 68], [83, 73, 71, 78], [83, 77, 65, 76, 76], [83, 85, 77], [83, 85, 77, 73, 70], [83, 85, 77, 80, 82, 79, 68, 85, 67, 84]]
def namesText : List (List UInt8) := [[67, 79, 78, 67, 65, 84], [69, 88, 65, 67, 84], [70, 73, 78, 68], [76, 69, 70, 84], [76, 69, 78], [76, 79, 87, 69, 82], [77, 73, 68], [82, 69, 80, 84], [82, 73, 71, 72, 84], [83, 85, 66, 83, 84, 73, 84, 85, 84, 69], [84, 69, 88, 84, 74, 79, 73, 78], [84, 69, 88, 84, 83, 80, 76, 73, 84], [84, 82, 73, 77], [85, 80, 80, 69, 82], [86, 65, 76, 85, 69]]
def namesLogic : List (List UInt8) := [[65, 78, 68], [73, 83, 66, 76, 65, 78, 75], [73, 83, 69, 82, 82, 79, 82], [73, 83, 76, 79, 71, 73, 67, 65, 76], [73, 83, 78, 85, 77, 66, 69, 82], [73, 83, 84, 69, 88, 84], [78, 65], [78, 79, 84], [79, 82], [88, 79, 82]]
def namesLook : List (List UInt8) := [[72, 76, 79, 79, 75, 85, 80], [73, 78, 68, 69, 88], [77, 65, 84, 67, 72], [86, 76, 79, 79, 75, 85, 80], [88, 76, 79, 79, 75, 85, 80]]
def namesArray : List (List UInt8) := [[67, 79, 76, 85, 77, 78, 83], [68, 82, 79, 80], [70, 73, 76, 84, 69, 82], [72, 83, 84, 65, 67, 75], [77, 77, 85, 76, 84], [82, 79, 87, 83], [83, 69, 81, 85, 69, 78, 67, 69], [83, 79, 82, 84], [84, 65, 75, 69], [84, 79, 67, 79, 76], [84, 79, 82, 79, 87], [84, 82, 65, 78, 83, 80, 79, 83, 69], [85, 78, 73, 81, 85, 69], [86, 83, 84, 65, 67, 75]]
def namesLazy : List (List UInt8) := [[73, 70], [73, 70, 69, 82, 82, 79, 82], [73, 70, 78, 65], [67, 72, 79, 79, 83, 69], [83, 87, 73, 84, 67, 72], [76, 69, 84]]
def lazyT (n : List UInt8) : Int × Int :=
  if isIn n [[73, 70]] then (2, 3) else
  if isIn n [[73, 70, 69, 82, 82, 79, 82], [73, 70, 78, 65]] then (2, 2) else
  if isIn n [[67, 72, 79, 79, 83, 69]] then (2, 32) else
  if isIn n [[83, 87, 73, 84, 67, 72]] then (3, 32) else
  if isIn n [[76, 69, 84]] then (3, 31) else
  (0, 0)
def mathT (n : List UInt8) : Int × Int :=
  if isIn n [[76, 65, 82, 71, 69], [83, 77, 65, 76, 76], [67, 79, 85, 78, 84, 73, 70], [82, 79, 85, 78, 68], [77, 79, 68], [80, 79, 87, 69, 82]] then (2, 2) else
  if isIn n [[83, 85, 77, 73, 70]] then (2, 3) else
  if isIn n [[65, 66, 83], [83, 73, 71, 78], [73, 78, 84]] then (1, 1) else
  (1, 32)
def textT (n : List UInt8) : Int × Int :=
  if isIn n [[76, 69, 70, 84], [82, 73, 71, 72, 84]] then (1, 2) else
  if isIn n [[77, 73, 68]] then (3, 3) else
  if isIn n [[70, 73, 78, 68]] then (2, 3) else
  if isIn n [[83, 85, 66, 83, 84, 73, 84, 85, 84, 69]] then (3, 4) else
  if isIn n [[82, 69, 80, 84], [69, 88, 65, 67, 84], [84, 69, 88, 84, 83, 80, 76, 73, 84]] then (2, 2) else
  if isIn n [[67, 79, 78, 67, 65, 84]] then (1, 32) else
  if isIn n [[84, 69, 88, 84, 74, 79, 73, 78]] then (3, 32) else
  (1, 1)
def logicT (n : List UInt8) : Int × Int :=
  if isIn n [[65, 78, 68], [79, 82], [88, 79, 82]] then (1, 32) else
  if isIn n [[78, 65]] then (0, 0) else
  (1, 1)
def lookT (n : List UInt8) : Int × Int :=
  if isIn n [[88, 76, 79, 79, 75, 85, 80]] then (3, 5) else
  if isIn n [[86, 76, 79, 79, 75, 85, 80], [72, 76, 79, 79, 75, 85, 80]] then (3, 4) else
  (2, 3)
def arrayT (n : List UInt8) : Int × Int :=
  if isIn n [[68, 82, 79, 80], [83, 79, 82, 84], [84, 65, 75, 69]] then (1, 3) else
  if isIn n [[70, 73, 76, 84, 69, 82]] then (2, 3) else
  if isIn n [[72, 83, 84, 65, 67, 75], [86, 83, 84, 65, 67, 75]] then (1, 32) else
  if isIn n [[77, 77, 85, 76, 84]] then (2, 2) else
  if isIn n [[83, 69, 81, 85, 69, 78, 67, 69]] then (1, 4) else
  (1, 1)
/-- The program's Count. -/
def countP (n : List UInt8) : Int × Int × Bool :=
  if 0 < (lazyT n).1 then ((lazyT n).1, (lazyT n).2, true) else
  if isIn n namesMath then ((mathT n).1, (mathT n).2, true) else
  if isIn n namesText then ((textT n).1, (textT n).2, true) else
  if isIn n namesLogic then ((logicT n).1, (logicT n).2, true) else
  if isIn n namesLook then ((lookT n).1, (lookT n).2, true) else
  if isIn n namesArray then ((arrayT n).1, (arrayT n).2, true) else
  (0, 0, false)
def takes11 (n : List UInt8) : Int × Int :=
  if isIn n [[65, 66, 83], [83, 73, 71, 78], [73, 78, 84]] then (1, 1) else
  if isIn n [[82, 79, 85, 78, 68], [77, 79, 68], [80, 79, 87, 69, 82], [76, 65, 82, 71, 69], [83, 77, 65, 76, 76], [67, 79, 85, 78, 84, 73, 70]] then (2, 2) else
  if isIn n [[83, 85, 77, 73, 70]] then (2, 3) else
  if isIn n [[83, 85, 77], [80, 82, 79, 68, 85, 67, 84], [77, 73, 78], [77, 65, 88], [67, 79, 85, 78, 84], [67, 79, 85, 78, 84, 65], [65, 86, 69, 82, 65, 71, 69], [77, 69, 68, 73, 65, 78], [83, 85, 77, 80, 82, 79, 68, 85, 67, 84]] then (1, 32) else
  (-1, -1)
def count13 (n : List UInt8) : Int × Int × Bool :=
  if isIn n [[65, 78, 68], [79, 82], [88, 79, 82]] then (1, 32, true) else
  if isIn n [[78, 79, 84], [73, 83, 66, 76, 65, 78, 75], [73, 83, 78, 85, 77, 66, 69, 82], [73, 83, 84, 69, 88, 84], [73, 83, 76, 79, 71, 73, 67, 65, 76], [73, 83, 69, 82, 82, 79, 82]] then (1, 1, true) else
  if isIn n [[78, 65]] then (0, 0, true) else
  (0, 0, false)
def takes14 (n : List UInt8) : Int × Int :=
  if isIn n [[73, 78, 68, 69, 88], [77, 65, 84, 67, 72]] then (2, 3) else
  if isIn n [[88, 76, 79, 79, 75, 85, 80]] then (3, 5) else
  if isIn n [[86, 76, 79, 79, 75, 85, 80], [72, 76, 79, 79, 75, 85, 80]] then (3, 4) else
  (-1, -1)
def lazyR (n : List UInt8) : Int × Int × Bool :=
  if isIn n [[73, 70]] then (2, 3, true) else
  if isIn n [[73, 70, 69, 82, 82, 79, 82], [73, 70, 78, 65]] then (2, 2, true) else
  if isIn n [[67, 72, 79, 79, 83, 69]] then (2, 32, true) else
  if isIn n [[83, 87, 73, 84, 67, 72]] then (3, 32, true) else
  if isIn n [[76, 69, 84]] then (3, 31, true) else
  (0, 0, false)
def restR (n : List UInt8) : Int × Int × Bool :=
  if isIn n [[76, 69, 78], [85, 80, 80, 69, 82], [76, 79, 87, 69, 82], [84, 82, 73, 77], [86, 65, 76, 85, 69], [67, 79, 76, 85, 77, 78, 83], [82, 79, 87, 83], [84, 79, 67, 79, 76], [84, 79, 82, 79, 87], [84, 82, 65, 78, 83, 80, 79, 83, 69], [85, 78, 73, 81, 85, 69]] then (1, 1, true) else
  if isIn n [[76, 69, 70, 84], [82, 73, 71, 72, 84]] then (1, 2, true) else
  if isIn n [[77, 73, 68]] then (3, 3, true) else
  if isIn n [[70, 73, 78, 68], [70, 73, 76, 84, 69, 82]] then (2, 3, true) else
  if isIn n [[83, 85, 66, 83, 84, 73, 84, 85, 84, 69]] then (3, 4, true) else
  if isIn n [[82, 69, 80, 84], [69, 88, 65, 67, 84], [84, 69, 88, 84, 83, 80, 76, 73, 84], [77, 77, 85, 76, 84]] then (2, 2, true) else
  if isIn n [[67, 79, 78, 67, 65, 84], [72, 83, 84, 65, 67, 75], [86, 83, 84, 65, 67, 75]] then (1, 32, true) else
  if isIn n [[84, 69, 88, 84, 74, 79, 73, 78]] then (3, 32, true) else
  if isIn n [[68, 82, 79, 80], [83, 79, 82, 84], [84, 65, 75, 69]] then (1, 3, true) else
  if isIn n [[83, 69, 81, 85, 69, 78, 67, 69]] then (1, 4, true) else
  (0, 0, false)
/-- The document's Count. -/
def countR (n : List UInt8) : Int × Int × Bool :=
  if (lazyR n).2.2 then lazyR n else
  if isIn n namesMath then ((takes11 n).1, (takes11 n).2, true) else
  if isIn n namesLogic then count13 n else
  if isIn n namesLook then ((takes14 n).1, (takes14 n).2, true) else
  restR n
def namesAll : List (List UInt8) := namesMath ++ namesText ++ namesLogic ++ namesLook ++ namesArray
/-- Known, as the document has it. -/
def knownR (n : List UInt8) : Bool := isIn n namesLazy || isIn n namesAll
def lazyP (n : List UInt8) : Bool := decide (0 < (lazyT n).1)
theorem isIn_false {n : List UInt8} {l m : List (List UInt8)} (h : n ∉ m) (hs : ∀ x ∈ l, x ∈ m) : isIn n l = false := by
  cases hh : isIn n l
  · rfl
  · exact absurd (hs _ (isIn_mem.1 hh)) h
def every : List (List UInt8) := namesLazy ++ namesAll
theorem count_same (n : List UInt8) : countP n = countR n ∧ (countP n).2.2 = knownR n ∧ lazyP n = isIn n namesLazy := by
  by_cases h : n ∈ every
  · have key : ∀ n ∈ every, countP n = countR n ∧ (countP n).2.2 = knownR n ∧ lazyP n = isIn n namesLazy := by decide +kernel
    exact key n h
  · have e := fun l (hs : ∀ x ∈ l, x ∈ every) => isIn_false (l := l) h hs
    have l1 : lazyT n = (0, 0) := by
      unfold lazyT
      simp only [e _ (show ∀ x ∈ [[73, 70]], x ∈ every by decide +kernel), e _ (show ∀ x ∈ [[73, 70, 69, 82, 82, 79, 82], [73, 70, 78, 65]], x ∈ every by decide +kernel), e _ (show ∀ x ∈ [[67, 72, 79, 79, 83, 69]], x ∈ every by decide +kernel), e _ (show ∀ x ∈ [[83, 87, 73, 84, 67, 72]], x ∈ every by decide +kernel), e _ (show ∀ x ∈ [[76, 69, 84]], x ∈ every by decide +kernel), Bool.false_eq_true, if_false]
    have l2 : lazyR n = (0, 0, false) := by
      unfold lazyR
      simp only [e _ (show ∀ x ∈ [[73, 70]], x ∈ every by decide +kernel), e _ (show ∀ x ∈ [[73, 70, 69, 82, 82, 79, 82], [73, 70, 78, 65]], x ∈ every by decide +kernel), e _ (show ∀ x ∈ [[67, 72, 79, 79, 83, 69]], x ∈ every by decide +kernel), e _ (show ∀ x ∈ [[83, 87, 73, 84, 67, 72]], x ∈ every by decide +kernel), e _ (show ∀ x ∈ [[76, 69, 84]], x ∈ every by decide +kernel), Bool.false_eq_true, if_false]
    have l3 : restR n = (0, 0, false) := by
      unfold restR
      simp only [e _ (show ∀ x ∈ [[76, 69, 78], [85, 80, 80, 69, 82], [76, 79, 87, 69, 82], [84, 82, 73, 77], [86, 65, 76, 85, 69], [67, 79, 76, 85, 77, 78, 83], [82, 79, 87, 83], [84, 79, 67, 79, 76], [84, 79, 82, 79, 87], [84, 82, 65, 78, 83, 80, 79, 83, 69], [85, 78, 73, 81, 85, 69]], x ∈ every by decide +kernel), e _ (show ∀ x ∈ [[76, 69, 70, 84], [82, 73, 71, 72, 84]], x ∈ every by decide +kernel), e _ (show ∀ x ∈ [[77, 73, 68]], x ∈ every by decide +kernel), e _ (show ∀ x ∈ [[70, 73, 78, 68], [70, 73, 76, 84, 69, 82]], x ∈ every by decide +kernel), e _ (show ∀ x ∈ [[83, 85, 66, 83, 84, 73, 84, 85, 84, 69]], x ∈ every by decide +kernel), e _ (show ∀ x ∈ [[82, 69, 80, 84], [69, 88, 65, 67, 84], [84, 69, 88, 84, 83, 80, 76, 73, 84], [77, 77, 85, 76, 84]], x ∈ every by decide +kernel), e _ (show ∀ x ∈ [[67, 79, 78, 67, 65, 84], [72, 83, 84, 65, 67, 75], [86, 83, 84, 65, 67, 75]], x ∈ every by decide +kernel), e _ (show ∀ x ∈ [[84, 69, 88, 84, 74, 79, 73, 78]], x ∈ every by decide +kernel), e _ (show ∀ x ∈ [[68, 82, 79, 80], [83, 79, 82, 84], [84, 65, 75, 69]], x ∈ every by decide +kernel), e _ (show ∀ x ∈ [[83, 69, 81, 85, 69, 78, 67, 69]], x ∈ every by decide +kernel), Bool.false_eq_true, if_false]
    have m1 := e namesMath (by decide +kernel)
    have m2 := e namesText (by decide +kernel)
    have m3 := e namesLogic (by decide +kernel)
    have m4 := e namesLook (by decide +kernel)
    have m5 := e namesArray (by decide +kernel)
    have m6 := e namesLazy (by decide +kernel)
    have m7 := e namesAll (by decide +kernel)
    have p : countP n = (0, 0, false) := by unfold countP; rw [l1, m1, m2, m3, m4, m5]; rfl
    have r : countR n = (0, 0, false) := by unfold countR; rw [l2, l3, m1, m3, m4]; rfl
    refine ⟨by rw [p, r], ?_, ?_⟩
    · rw [p]; unfold knownR; rw [m6, m7]; rfl
    · unfold lazyP; rw [l1, m6]; rfl
end Go.Proofs.YtdmbppgogdkpdaaGreatDoor
