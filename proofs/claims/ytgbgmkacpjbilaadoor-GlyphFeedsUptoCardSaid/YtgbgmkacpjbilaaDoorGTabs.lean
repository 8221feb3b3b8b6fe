/- A part of the proof: contracts of functions, each proved once. -/
import Derived.Test.YtgbgmkacpjbilaaDoorE3
namespace Go.Eng.G
def tab2 : Nat → List (List Nat) × List Nat
  | _ => ([], [])
def live2 : Nat → Option (List Nat)
  | 0 => some []
  | _ => none
attribute [simp] tab2 live2
def tab3 : Nat → List (List Nat) × List Nat
  | _ => ([], [])
def live3 : Nat → Option (List Nat)
  | 0 => some [0]
  | 1 => some [0, 15]
  | 2 => some [2]
  | 3 => some [0, 3]
  | 4 => some [0, 3, 4]
  | 5 => some [3, 4, 17, 18, 19]
  | 6 => some [3, 4, 17, 18, 19, 20]
  | 7 => some [3, 4, 6, 17, 18, 19]
  | 8 => some [3, 6, 7, 17, 18, 19]
  | 9 => some [3, 6, 8, 9, 17, 18, 19]
  | 10 => some [3, 8, 9, 10, 17, 18, 19]
  | 11 => some [3, 9, 17, 18, 19, 44]
  | 12 => some [2]
  | 13 => some [3, 4, 17, 18, 19]
  | 14 => some [3, 4, 17, 18, 19]
  | 15 => some [3, 4, 11]
  | 16 => some [11, 63]
  | 17 => some [2]
  | 18 => some [64, 65, 66]
  | 19 => some [64, 65, 66, 67]
  | 20 => some [13, 64, 65, 66]
  | 21 => some [64, 65, 66, 71]
  | 22 => some [2]
  | 23 => some [64, 65, 66]
  | 24 => some [2]
  | _ => none
attribute [simp] tab3 live3
def tab4 : Nat → List (List Nat) × List Nat
  | _ => ([], [])
def live4 : Nat → Option (List Nat)
  | 0 => some [0, 1]
  | 1 => some [0, 1, 13]
  | 2 => some [4]
  | 3 => some [0, 1, 5, 6]
  | 4 => some [0, 1, 5, 6, 7, 8]
  | 5 => some [0, 1, 5, 7, 40]
  | 6 => some [4]
  | 7 => some [0, 1, 5, 7, 59]
  | 8 => some [4]
  | 9 => some [0, 1, 5, 7, 61, 62]
  | 10 => some [0, 1, 5, 7, 61, 62, 63]
  | 11 => some [0, 1, 5, 7, 9, 61, 62]
  | 12 => some [0, 1, 5, 7, 61, 62]
  | 13 => some [0, 1, 5, 7, 61, 62]
  | 14 => some [7, 10]
  | 15 => some [4]
  | _ => none
attribute [simp] tab4 live4
def tab5 : Nat → List (List Nat) × List Nat
  | _ => ([], [])
def live5 : Nat → Option (List Nat)
  | 0 => some [0, 1, 2]
  | 1 => some [0, 1, 2, 14]
  | 2 => some [6]
  | 3 => some [0, 1, 2, 22]
  | 4 => some [6]
  | 5 => some [0, 1, 2, 7]
  | 6 => some [0, 2, 7, 8]
  | 7 => some [0, 2, 7, 8, 9]
  | 8 => some [0, 2, 7, 8, 61]
  | 9 => some [6]
  | 10 => some [0, 2, 7, 8]
  | 11 => some [0, 2, 10]
  | 12 => some [2, 10, 87]
  | 13 => some [6]
  | 14 => some [90, 91, 92]
  | 15 => some [90, 91, 92, 93]
  | 16 => some [12, 90, 91, 92]
  | 17 => some [90, 91, 92, 97]
  | 18 => some [6]
  | 19 => some [90, 91, 92]
  | 20 => some [6]
  | _ => none
attribute [simp] tab5 live5
def tab6 : Nat → List (List Nat) × List Nat
  | _ => ([], [])
def live6 : Nat → Option (List Nat)
  | 0 => some []
  | 1 => some [1]
  | 2 => some [1, 2]
  | 3 => some [1, 2, 3]
  | 4 => some [1, 2, 3, 4]
  | 5 => some [1, 2, 3, 4, 5, 6]
  | 6 => some [0]
  | _ => none
attribute [simp] tab6 live6
def tab7 : Nat → List (List Nat) × List Nat
  | 5 => ([[], [], [], [1, 2], [0], [0, 1, 2, 3, 4]], [0, 1, 2, 3, 4, 5])
  | _ => ([], [])
def live7 : Nat → Option (List Nat)
  | 0 => some [0]
  | 1 => some [0, 4]
  | 2 => some [0, 4, 5]
  | 3 => some [0, 4, 5, 12]
  | 4 => some [0, 4, 5, 16]
  | 5 => some [2, 3]
  | 6 => some [0, 4, 5, 6, 7]
  | 7 => some [0, 4, 5, 6, 7, 29]
  | 8 => some [0, 4, 5]
  | 9 => some [0, 4, 5]
  | 10 => some [0, 4, 5, 6]
  | 11 => some [0, 4, 5]
  | 12 => some [2, 3]
  | _ => none
attribute [simp] tab7 live7
def tab8 : Nat → List (List Nat) × List Nat
  | _ => ([], [])
def live8 : Nat → Option (List Nat)
  | 0 => some [0, 1]
  | 1 => some [0, 1, 5]
  | 2 => some [0, 5, 6]
  | 3 => some [0, 5, 6, 17]
  | 4 => some [0, 5, 6, 7, 8]
  | 5 => some [0, 5, 6, 8]
  | 6 => some [0, 5, 6]
  | 7 => some [5]
  | 8 => some [4]
  | _ => none
attribute [simp] tab8 live8
def tab9 : Nat → List (List Nat) × List Nat
  | 6 => ([[], [], [0, 1], [0, 1, 2], [], [], [4, 5], [4, 5, 6], [0, 1, 2, 3, 4, 5, 6, 7]], [0, 1, 2, 3, 4, 5, 6, 7, 8])
  | _ => ([], [])
def live9 : Nat → Option (List Nat)
  | 0 => some [0, 1]
  | 1 => some [0, 1, 10]
  | 2 => some [4]
  | 3 => some [0, 1, 5]
  | 4 => some [0, 1, 5, 14]
  | 5 => some [0, 1, 5]
  | 6 => some [0, 1, 5, 25]
  | 7 => some [4]
  | 8 => some [4]
  | _ => none
attribute [simp] tab9 live9
def tab10 : Nat → List (List Nat) × List Nat
  | _ => ([], [])
def live10 : Nat → Option (List Nat)
  | 0 => some [0]
  | 1 => some [2]
  | _ => none
attribute [simp] tab10 live10
def tab11 : Nat → List (List Nat) × List Nat
  | _ => ([], [])
def live11 : Nat → Option (List Nat)
  | 0 => some [0]
  | 1 => some [0, 3]
  | 2 => some [3]
  | 3 => some [2]
  | _ => none
attribute [simp] tab11 live11
def tab12 : Nat → List (List Nat) × List Nat
  | _ => ([], [])
def live12 : Nat → Option (List Nat)
  | 0 => some [0, 1]
  | 1 => some [0, 1, 6]
  | 2 => some [0, 1, 6, 9, 10, 11]
  | 3 => some [0, 1, 6, 9, 10, 11, 12]
  | 4 => some [0, 1, 6, 7, 8, 9, 10, 11]
  | 5 => some [0, 1, 6, 7, 8, 9, 10, 11, 25]
  | 6 => some [4, 5]
  | 7 => some [0, 1, 6, 9, 10, 11]
  | 8 => some [0, 1, 6, 9, 10, 11]
  | 9 => some [4, 5]
  | _ => none
attribute [simp] tab12 live12
def tab13 : Nat → List (List Nat) × List Nat
  | _ => ([], [])
def live13 : Nat → Option (List Nat)
  | 0 => some [0, 1]
  | 1 => some [0, 1, 6]
  | 2 => some [0, 1, 6, 7]
  | 3 => some [0, 1, 6, 7, 8]
  | 4 => some [0, 1, 6, 7, 8, 14]
  | 5 => some [0, 1, 6, 7, 8]
  | 6 => some [0, 1, 6, 7, 8, 9]
  | 7 => some [0, 1, 6, 7, 8, 9, 30]
  | 8 => some [4, 5]
  | 9 => some [0, 1, 6, 7, 8]
  | 10 => some [0, 1, 6, 7, 8]
  | 11 => some [4, 5]
  | _ => none
attribute [simp] tab13 live13
def tab14 : Nat → List (List Nat) × List Nat
  | _ => ([], [])
def live14 : Nat → Option (List Nat)
  | 0 => some [0]
  | 1 => some [0, 3]
  | 2 => some [3, 6, 7, 8]
  | 3 => some [3, 6, 7, 8, 9]
  | 4 => some [3, 5, 6, 7, 8]
  | 5 => some [3, 6, 7, 8]
  | 6 => some [3, 6, 7, 8]
  | 7 => some [2]
  | _ => none
attribute [simp] tab14 live14
def tab15 : Nat → List (List Nat) × List Nat
  | _ => ([], [])
def live15 : Nat → Option (List Nat)
  | 0 => some [0]
  | 1 => some [2]
  | _ => none
attribute [simp] tab15 live15
def tab16 : Nat → List (List Nat) × List Nat
  | _ => ([], [])
def live16 : Nat → Option (List Nat)
  | 0 => some [0]
  | 1 => some [0, 3]
  | 2 => some [2]
  | 3 => some [0, 10]
  | 4 => some [2]
  | 5 => some [13]
  | 6 => some [2]
  | 7 => some [2]
  | _ => none
attribute [simp] tab16 live16
def tab17 : Nat → List (List Nat) × List Nat
  | _ => ([], [])
def live17 : Nat → Option (List Nat)
  | 0 => some [0]
  | 1 => some [0, 3]
  | 2 => some [3, 6, 7, 8]
  | 3 => some [3, 6, 7, 8, 9]
  | 4 => some [3, 5, 6, 7, 8]
  | 5 => some [3, 6, 7, 8]
  | 6 => some [3, 6, 7, 8]
  | 7 => some [2]
  | _ => none
attribute [simp] tab17 live17
def tab18 : Nat → List (List Nat) × List Nat
  | _ => ([], [])
def live18 : Nat → Option (List Nat)
  | 0 => some [0]
  | 1 => some [0, 3]
  | 2 => some [0, 3, 8]
  | 3 => some [0, 3, 4, 5]
  | 4 => some [0, 3, 5]
  | 5 => some [0, 3]
  | 6 => some [2]
  | _ => none
attribute [simp] tab18 live18
def tab19 : Nat → List (List Nat) × List Nat
  | _ => ([], [])
def live19 : Nat → Option (List Nat)
  | 0 => some [0]
  | 1 => some [0, 19]
  | 2 => some [2]
  | 3 => some [0, 3]
  | 4 => some [0, 26]
  | 5 => some [2]
  | 6 => some [0, 5]
  | 7 => some [0, 5, 6]
  | 8 => some [0, 5, 6, 39]
  | 9 => some [0, 5, 6]
  | 10 => some [0, 5, 6, 7]
  | 11 => some [0, 5, 6, 7, 8]
  | 12 => some [0, 5, 6, 7, 8, 46]
  | 13 => some [0, 5, 6, 7, 8]
  | 14 => some [0, 5, 6, 7, 8]
  | 15 => some [0, 5, 6, 7, 9]
  | 16 => some [0, 5, 6, 7, 9, 62]
  | 17 => some [0, 5, 6, 7, 9]
  | 18 => some [0, 5, 6, 7, 9]
  | 19 => some [0, 5, 6, 7, 10]
  | 20 => some [0, 5, 6, 83]
  | 21 => some [2]
  | 22 => some [2]
  | _ => none
attribute [simp] tab19 live19
def tab20 : Nat → List (List Nat) × List Nat
  | 7 => ([[], [0], [0, 1], [0, 1, 2], [], [4], [4, 5], [4, 5, 6], [4, 5, 6, 7], [0, 1, 2, 3, 4, 5, 6, 7, 8], [], [0, 1, 2, 3, 4, 5, 6, 7, 8, 9, 10]], [0, 1, 2, 3, 4, 5, 6, 7, 8, 9, 10, 11])
  | 14 => ([[], [0], [0, 1], [0, 1, 2], [], [4], [4, 5], [4, 5, 6], [4, 5, 6, 7], [4, 5, 6, 7, 8], [0, 1, 2, 3, 4, 5, 6, 7, 8, 9], [], [11], [11, 12], [11, 12, 13], [11, 12, 13, 14], [0, 1, 2, 3, 4, 5, 6, 7, 8, 9, 10, 11, 12, 13, 14, 15], [], [0, 1, 2, 3, 4, 5, 6, 7, 8, 9, 10, 11, 12, 13, 14, 15, 16, 17]], [0, 1, 2, 3, 4, 5, 6, 7, 8, 9, 10, 11, 12, 13, 14, 15, 16, 17, 18])
  | 21 => ([[], [0], [0, 1], [0, 1, 2], [], [4], [4, 5], [4, 5, 6], [4, 5, 6, 7], [4, 5, 6, 7, 8], [0, 1, 2, 3, 4, 5, 6, 7, 8, 9], [], [11], [11, 12], [11, 12, 13], [11, 12, 13, 14], [11, 12, 13, 14, 15], [0, 1, 2, 3, 4, 5, 6, 7, 8, 9, 10, 11, 12, 13, 14, 15, 16], [], [18], [18, 19], [18, 19, 20], [18, 19, 20, 21], [0, 1, 2, 3, 4, 5, 6, 7, 8, 9, 10, 11, 12, 13, 14, 15, 16, 17, 18, 19, 20, 21, 22], [], [0, 1, 2, 3, 4, 5, 6, 7, 8, 9, 10, 11, 12, 13, 14, 15, 16, 17, 18, 19, 20, 21, 22, 23, 24]], [0, 1, 2, 3, 4, 5, 6, 7, 8, 9, 10, 11, 12, 13, 14, 15, 16, 17, 18, 19, 20, 21, 22, 23, 24, 25])
  | _ => ([], [])
def live20 : Nat → Option (List Nat)
  | 0 => some [0]
  | 1 => some [0, 9]
  | 2 => some [2, 3]
  | 3 => some [0, 4]
  | 4 => some [0, 4, 14]
  | 5 => some [2, 3]
  | 6 => some [0, 4, 26]
  | 7 => some [2, 3]
  | 8 => some [0, 4, 5, 6]
  | 9 => some [0, 4, 5, 6, 38]
  | 10 => some [0, 4, 5, 6]
  | 11 => some [0, 4, 5, 6, 40]
  | 12 => some [0, 4, 5, 6]
  | 13 => some [0, 4, 56]
  | 14 => some [2, 3]
  | 15 => some [0, 4, 5, 6]
  | 16 => some [0, 4, 5, 6, 75]
  | 17 => some [0, 4, 5, 6]
  | 18 => some [0, 4, 5, 6, 77]
  | 19 => some [0, 4, 5, 6]
  | 20 => some [0, 4, 97]
  | 21 => some [2, 3]
  | 22 => some [2, 3]
  | _ => none
attribute [simp] tab20 live20
def tab21 : Nat → List (List Nat) × List Nat
  | _ => ([], [])
def live21 : Nat → Option (List Nat)
  | 0 => some [0]
  | 1 => some [0, 4]
  | 2 => some [2]
  | 3 => some [2]
  | _ => none
attribute [simp] tab21 live21
def tab22 : Nat → List (List Nat) × List Nat
  | 8 => ([[], [0], [0, 1], [0, 1, 2], [0, 1, 2, 3], [0, 1, 2, 3, 4], [0, 1, 2], [0, 1, 2, 6], [0, 1, 2, 3, 4, 5, 6, 7], [0, 1, 2, 3, 4, 5, 6, 7, 8], [0, 1, 2, 3, 4, 5, 6, 7, 8, 9], [0, 1, 2, 3, 4, 5, 6, 7, 8, 9, 10], [0, 1, 2, 3, 4, 5, 6, 7, 8, 9], [0, 1, 2, 3, 4, 5, 6, 7, 8, 9, 12], [0, 1, 2, 3, 4, 5, 6, 7, 8, 9, 12, 13], [0, 1, 2, 3, 4, 5, 6, 7, 8, 9, 10, 11, 12, 13, 14], [0, 1, 2, 3, 4, 5, 6, 7, 8, 9, 10, 11, 12, 13, 14, 15], [0, 1, 2, 3, 4, 5, 6, 7, 8, 9, 10, 11, 12, 13, 14, 15, 16]], [0, 1, 2, 3, 4, 5, 6, 7, 8, 9, 10, 11, 12, 13, 14, 15, 16, 17])
  | _ => ([], [])
def live22 : Nat → Option (List Nat)
  | 0 => some [0]
  | 1 => some [0, 3]
  | 2 => some [0, 3, 9]
  | 3 => some [2]
  | 4 => some [0, 3, 4]
  | 5 => some [0, 3, 4, 19]
  | 6 => some [2]
  | 7 => some [0, 3, 5]
  | 8 => some [0, 3, 41]
  | 9 => some [2]
  | 10 => some [55]
  | 11 => some [2]
  | 12 => some [2]
  | _ => none
attribute [simp] tab22 live22
def tab23 : Nat → List (List Nat) × List Nat
  | _ => ([], [])
def live23 : Nat → Option (List Nat)
  | 0 => some [0]
  | 1 => some [0, 6, 7, 8]
  | 2 => some [0, 6, 8, 9]
  | 3 => some [0, 5]
  | 4 => some [0, 5, 13]
  | 5 => some [2, 3]
  | 6 => some [0, 6, 7, 8]
  | 7 => some [2, 3]
  | _ => none
attribute [simp] tab23 live23
def tab24 : Nat → List (List Nat) × List Nat
  | 9 => ([[], [], [], [1, 2], [], [], [4, 5], [1, 2, 3, 4, 5, 6], [0, 1, 2, 3, 4, 5, 6, 7], [0, 1, 2, 3, 4, 5, 6, 7, 8]], [0, 1, 2, 3, 4, 5, 6, 7, 8, 9])
  | _ => ([], [])
def live24 : Nat → Option (List Nat)
  | 0 => some [0, 1]
  | 1 => some [0, 1, 10]
  | 2 => some [0, 1]
  | 3 => some [0, 5, 6]
  | 4 => some [0, 6, 26]
  | 5 => some [0, 6]
  | 6 => some [0, 7]
  | 7 => some [7, 8]
  | 8 => some [7, 8, 37]
  | 9 => some [7, 8]
  | 10 => some [4]
  | _ => none
attribute [simp] tab24 live24
def tab25 : Nat → List (List Nat) × List Nat
  | _ => ([], [])
def live25 : Nat → Option (List Nat)
  | 0 => some [0]
  | 1 => some [0, 4]
  | 2 => some [2]
  | 3 => some [2]
  | _ => none
attribute [simp] tab25 live25
def tab26 : Nat → List (List Nat) × List Nat
  | _ => ([], [])
def live26 : Nat → Option (List Nat)
  | 0 => some [0]
  | 1 => some [0, 44]
  | 2 => some [2]
  | 3 => some [0, 3]
  | 4 => some [0, 3, 4]
  | 5 => some [3, 4, 5]
  | 6 => some [133]
  | 7 => some [2]
  | 8 => some [2]
  | _ => none
attribute [simp] tab26 live26
def tab27 : Nat → List (List Nat) × List Nat
  | _ => ([], [])
def live27 : Nat → Option (List Nat)
  | 0 => some [0]
  | 1 => some [2]
  | _ => none
attribute [simp] tab27 live27
def tab28 : Nat → List (List Nat) × List Nat
  | _ => ([], [])
def live28 : Nat → Option (List Nat)
  | 0 => some [0]
  | 1 => some [2]
  | _ => none
attribute [simp] tab28 live28
def tab29 : Nat → List (List Nat) × List Nat
  | _ => ([], [])
def live29 : Nat → Option (List Nat)
  | 0 => some [0, 1]
  | 1 => some [0, 1, 7]
  | 2 => some [4]
  | 3 => some [4]
  | _ => none
attribute [simp] tab29 live29
def tab30 : Nat → List (List Nat) × List Nat
  | _ => ([], [])
def live30 : Nat → Option (List Nat)
  | 0 => some [0, 1, 2, 3]
  | 1 => some [8]
  | _ => none
attribute [simp] tab30 live30
def tab31 : Nat → List (List Nat) × List Nat
  | _ => ([], [])
def live31 : Nat → Option (List Nat)
  | 0 => some [0]
  | 1 => some [0, 4]
  | 2 => some [0, 4, 16]
  | 3 => some [2, 3]
  | 4 => some [0, 4, 5]
  | 5 => some [0, 4, 5, 6]
  | 6 => some [0, 4, 5, 6, 24]
  | 7 => some [0, 7]
  | 8 => some [2, 3]
  | 9 => some [0, 4, 5, 6, 8]
  | 10 => some [0, 4, 5, 8, 9]
  | 11 => some [0, 5, 8, 9, 47]
  | 12 => some [2, 3]
  | 13 => some [0, 5, 8, 9, 10]
  | 14 => some [0, 5, 8, 10, 60]
  | 15 => some [2, 3]
  | 16 => some [0, 5, 8, 10, 62]
  | 17 => some [2, 3]
  | 18 => some [0, 5, 8, 10, 11]
  | 19 => some [0, 5, 8, 10, 11, 79]
  | 20 => some [2, 3]
  | 21 => some [0, 5, 10, 11, 81]
  | 22 => some [2, 3]
  | 23 => some [5, 10, 11, 12]
  | 24 => some [5, 10, 11, 12, 103]
  | 25 => some [2, 3]
  | 26 => some [2, 3]
  | _ => none
attribute [simp] tab31 live31
def tab32 : Nat → List (List Nat) × List Nat
  | _ => ([], [])
def live32 : Nat → Option (List Nat)
  | 0 => some [0, 1]
  | 1 => some [6, 7]
  | 2 => some [4, 5]
  | 3 => some [8, 9]
  | 4 => some [4, 5]
  | _ => none
attribute [simp] tab32 live32
def tab33 : Nat → List (List Nat) × List Nat
  | _ => ([], [])
def live33 : Nat → Option (List Nat)
  | 0 => some [1, 2]
  | 1 => some [4]
  | _ => none
attribute [simp] tab33 live33
def tab34 : Nat → List (List Nat) × List Nat
  | _ => ([], [])
def live34 : Nat → Option (List Nat)
  | 0 => some [0, 1]
  | 1 => some [0, 1, 5]
  | 2 => some [4]
  | 3 => some [0, 1, 5, 11]
  | 4 => some [4]
  | 5 => some [0, 1, 5, 25]
  | 6 => some [0, 1, 5, 25]
  | 7 => some [4]
  | 8 => some [0, 1, 50]
  | 9 => some [4]
  | _ => none
attribute [simp] tab34 live34
def tab35 : Nat → List (List Nat) × List Nat
  | _ => ([], [])
def live35 : Nat → Option (List Nat)
  | 0 => some [0, 1]
  | 1 => some [6]
  | 2 => some [4, 5]
  | _ => none
attribute [simp] tab35 live35
def tab36 : Nat → List (List Nat) × List Nat
  | _ => ([], [])
def live36 : Nat → Option (List Nat)
  | 0 => some [0, 1]
  | 1 => some [0, 1, 6]
  | 2 => some [0, 1, 6, 7]
  | 3 => some [0, 1, 6, 7, 8]
  | 4 => some [0, 1, 6, 7, 8, 9]
  | 5 => some [0, 1, 6, 7, 8, 9, 10]
  | 6 => some [0, 1, 6, 7, 9, 11]
  | 7 => some [0, 1, 6, 7, 9, 11, 12]
  | 8 => some [0, 1, 6, 7, 9, 12, 13]
  | 9 => some [0, 1, 7, 9, 12, 13]
  | 10 => some [0, 1, 4]
  | 11 => some [4, 5]
  | _ => none
attribute [simp] tab36 live36
def tab37 : Nat → List (List Nat) × List Nat
  | _ => ([], [])
def live37 : Nat → Option (List Nat)
  | 0 => some [0, 1]
  | 1 => some [4]
  | _ => none
attribute [simp] tab37 live37
def tab38 : Nat → List (List Nat) × List Nat
  | _ => ([], [])
def live38 : Nat → Option (List Nat)
  | 0 => some [1, 2]
  | 1 => some [3]
  | _ => none
attribute [simp] tab38 live38
def tab39 : Nat → List (List Nat) × List Nat
  | _ => ([], [])
def live39 : Nat → Option (List Nat)
  | 0 => some [0, 1]
  | 1 => some [0, 1, 7, 8]
  | 2 => some [0, 1, 7, 8, 9]
  | 3 => some [0, 1, 5, 7, 8]
  | 4 => some [0, 1, 5, 7, 8, 16]
  | 5 => some [4]
  | 6 => some [0, 1, 7, 8]
  | 7 => some [4]
  | _ => none
attribute [simp] tab39 live39
def tab60 : Nat → List (List Nat) × List Nat
  | _ => ([], [])
def live60 : Nat → Option (List Nat)
  | 0 => some []
  | _ => none
attribute [simp] tab60 live60
end Go.Eng.G
