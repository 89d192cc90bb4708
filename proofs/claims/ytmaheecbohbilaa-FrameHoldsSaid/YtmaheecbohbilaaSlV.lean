/-
  What comes in: elements and structs of some fields.
-/
import Derived.Test.YtmaheecbohbilaaSlU
namespace Go.Proofs.Ytmaheecbohbilaa.Sl
open Go Go.RowKit
set_option linter.unusedVariables false
set_option linter.unusedSimpArgs false
theorem take1 {cells : List Value} {k : Nat} {a0 : Value} (h0 : cells[k + 0]? = some a0) : (cells.drop k).take 1 = [a0] := by
  have l := (List.getElem?_eq_some_iff.1 h0).1
  rw [List.drop_eq_getElem_cons (by omega)]
  have e0 := (List.getElem?_eq_some_iff.1 h0).2
  simp only [Nat.add_zero] at e0
  simp [e0]
theorem arr1 {cs : Array Value} {a0 : Value} (hs : cs.size = 1) (h0 : cs[0]? = some a0) : cs = #[a0] := by
  apply Array.ext_getElem?
  intro i
  match i with
  | 0 => simpa using h0
  | i + 1 => simp [Array.getElem?_eq_none (show cs.size ≤ i + 1 by omega)]
theorem take2 {cells : List Value} {k : Nat} {a0 a1 : Value} (h0 : cells[k + 0]? = some a0) (h1 : cells[k + 1]? = some a1) : (cells.drop k).take 2 = [a0, a1] := by
  have l := (List.getElem?_eq_some_iff.1 h1).1
  rw [List.drop_eq_getElem_cons (by omega), List.drop_eq_getElem_cons (by omega)]
  have e0 := (List.getElem?_eq_some_iff.1 h0).2
  have e1 := (List.getElem?_eq_some_iff.1 h1).2
  simp only [Nat.add_zero] at e0
  simp [e0, e1]
theorem arr2 {cs : Array Value} {a0 a1 : Value} (hs : cs.size = 2) (h0 : cs[0]? = some a0) (h1 : cs[1]? = some a1) : cs = #[a0, a1] := by
  apply Array.ext_getElem?
  intro i
  match i with
  | 0 => simpa using h0
  | 1 => simpa using h1
  | i + 2 => simp [Array.getElem?_eq_none (show cs.size ≤ i + 2 by omega)]
theorem take4 {cells : List Value} {k : Nat} {a0 a1 a2 a3 : Value} (h0 : cells[k + 0]? = some a0) (h1 : cells[k + 1]? = some a1) (h2 : cells[k + 2]? = some a2) (h3 : cells[k + 3]? = some a3) : (cells.drop k).take 4 = [a0, a1, a2, a3] := by
  have l := (List.getElem?_eq_some_iff.1 h3).1
  rw [List.drop_eq_getElem_cons (by omega), List.drop_eq_getElem_cons (by omega), List.drop_eq_getElem_cons (by omega), List.drop_eq_getElem_cons (by omega)]
  have e0 := (List.getElem?_eq_some_iff.1 h0).2
  have e1 := (List.getElem?_eq_some_iff.1 h1).2
  have e2 := (List.getElem?_eq_some_iff.1 h2).2
  have e3 := (List.getElem?_eq_some_iff.1 h3).2
  simp only [Nat.add_zero] at e0
  simp [e0, e1, e2, e3]
theorem arr4 {cs : Array Value} {a0 a1 a2 a3 : Value} (hs : cs.size = 4) (h0 : cs[0]? = some a0) (h1 : cs[1]? = some a1) (h2 : cs[2]? = some a2) (h3 : cs[3]? = some a3) : cs = #[a0, a1, a2, a3] := by
  apply Array.ext_getElem?
  intro i
  match i with
  | 0 => simpa using h0
  | 1 => simpa using h1
  | 2 => simpa using h2
  | 3 => simpa using h3
  | i + 4 => simp [Array.getElem?_eq_none (show cs.size ≤ i + 4 by omega)]
theorem take5 {cells : List Value} {k : Nat} {a0 a1 a2 a3 a4 : Value} (h0 : cells[k + 0]? = some a0) (h1 : cells[k + 1]? = some a1) (h2 : cells[k + 2]? = some a2) (h3 : cells[k + 3]? = some a3) (h4 : cells[k + 4]? = some a4) : (cells.drop k).take 5 = [a0, a1, a2, a3, a4] := by
  have l := (List.getElem?_eq_some_iff.1 h4).1
  rw [List.drop_eq_getElem_cons (by omega), List.drop_eq_getElem_cons (by omega), List.drop_eq_getElem_cons (by omega), List.drop_eq_getElem_cons (by omega), List.drop_eq_getElem_cons (by omega)]
  have e0 := (List.getElem?_eq_some_iff.1 h0).2
  have e1 := (List.getElem?_eq_some_iff.1 h1).2
  have e2 := (List.getElem?_eq_some_iff.1 h2).2
  have e3 := (List.getElem?_eq_some_iff.1 h3).2
  have e4 := (List.getElem?_eq_some_iff.1 h4).2
  simp only [Nat.add_zero] at e0
  simp [e0, e1, e2, e3, e4]
theorem arr5 {cs : Array Value} {a0 a1 a2 a3 a4 : Value} (hs : cs.size = 5) (h0 : cs[0]? = some a0) (h1 : cs[1]? = some a1) (h2 : cs[2]? = some a2) (h3 : cs[3]? = some a3) (h4 : cs[4]? = some a4) : cs = #[a0, a1, a2, a3, a4] := by
  apply Array.ext_getElem?
  intro i
  match i with
  | 0 => simpa using h0
  | 1 => simpa using h1
  | 2 => simpa using h2
  | 3 => simpa using h3
  | 4 => simpa using h4
  | i + 5 => simp [Array.getElem?_eq_none (show cs.size ≤ i + 5 by omega)]
theorem take6 {cells : List Value} {k : Nat} {a0 a1 a2 a3 a4 a5 : Value} (h0 : cells[k + 0]? = some a0) (h1 : cells[k + 1]? = some a1) (h2 : cells[k + 2]? = some a2) (h3 : cells[k + 3]? = some a3) (h4 : cells[k + 4]? = some a4) (h5 : cells[k + 5]? = some a5) : (cells.drop k).take 6 = [a0, a1, a2, a3, a4, a5] := by
  have l := (List.getElem?_eq_some_iff.1 h5).1
  rw [List.drop_eq_getElem_cons (by omega), List.drop_eq_getElem_cons (by omega), List.drop_eq_getElem_cons (by omega), List.drop_eq_getElem_cons (by omega), List.drop_eq_getElem_cons (by omega), List.drop_eq_getElem_cons (by omega)]
  have e0 := (List.getElem?_eq_some_iff.1 h0).2
  have e1 := (List.getElem?_eq_some_iff.1 h1).2
  have e2 := (List.getElem?_eq_some_iff.1 h2).2
  have e3 := (List.getElem?_eq_some_iff.1 h3).2
  have e4 := (List.getElem?_eq_some_iff.1 h4).2
  have e5 := (List.getElem?_eq_some_iff.1 h5).2
  simp only [Nat.add_zero] at e0
  simp [e0, e1, e2, e3, e4, e5]
theorem arr6 {cs : Array Value} {a0 a1 a2 a3 a4 a5 : Value} (hs : cs.size = 6) (h0 : cs[0]? = some a0) (h1 : cs[1]? = some a1) (h2 : cs[2]? = some a2) (h3 : cs[3]? = some a3) (h4 : cs[4]? = some a4) (h5 : cs[5]? = some a5) : cs = #[a0, a1, a2, a3, a4, a5] := by
  apply Array.ext_getElem?
  intro i
  match i with
  | 0 => simpa using h0
  | 1 => simpa using h1
  | 2 => simpa using h2
  | 3 => simpa using h3
  | 4 => simpa using h4
  | 5 => simpa using h5
  | i + 6 => simp [Array.getElem?_eq_none (show cs.size ≤ i + 6 by omega)]
theorem take7 {cells : List Value} {k : Nat} {a0 a1 a2 a3 a4 a5 a6 : Value} (h0 : cells[k + 0]? = some a0) (h1 : cells[k + 1]? = some a1) (h2 : cells[k + 2]? = some a2) (h3 : cells[k + 3]? = some a3) (h4 : cells[k + 4]? = some a4) (h5 : cells[k + 5]? = some a5) (h6 : cells[k + 6]? = some a6) : (cells.drop k).take 7 = [a0, a1, a2, a3, a4, a5, a6] := by
  have l := (List.getElem?_eq_some_iff.1 h6).1
  rw [List.drop_eq_getElem_cons (by omega), List.drop_eq_getElem_cons (by omega), List.drop_eq_getElem_cons (by omega), List.drop_eq_getElem_cons (by omega), List.drop_eq_getElem_cons (by omega), List.drop_eq_getElem_cons (by omega), List.drop_eq_getElem_cons (by omega)]
  have e0 := (List.getElem?_eq_some_iff.1 h0).2
  have e1 := (List.getElem?_eq_some_iff.1 h1).2
  have e2 := (List.getElem?_eq_some_iff.1 h2).2
  have e3 := (List.getElem?_eq_some_iff.1 h3).2
  have e4 := (List.getElem?_eq_some_iff.1 h4).2
  have e5 := (List.getElem?_eq_some_iff.1 h5).2
  have e6 := (List.getElem?_eq_some_iff.1 h6).2
  simp only [Nat.add_zero] at e0
  simp [e0, e1, e2, e3, e4, e5, e6]
theorem arr7 {cs : Array Value} {a0 a1 a2 a3 a4 a5 a6 : Value} (hs : cs.size = 7) (h0 : cs[0]? = some a0) (h1 : cs[1]? = some a1) (h2 : cs[2]? = some a2) (h3 : cs[3]? = some a3) (h4 : cs[4]? = some a4) (h5 : cs[5]? = some a5) (h6 : cs[6]? = some a6) : cs = #[a0, a1, a2, a3, a4, a5, a6] := by
  apply Array.ext_getElem?
  intro i
  match i with
  | 0 => simpa using h0
  | 1 => simpa using h1
  | 2 => simpa using h2
  | 3 => simpa using h3
  | 4 => simpa using h4
  | 5 => simpa using h5
  | 6 => simpa using h6
  | i + 7 => simp [Array.getElem?_eq_none (show cs.size ≤ i + 7 by omega)]
theorem take8 {cells : List Value} {k : Nat} {a0 a1 a2 a3 a4 a5 a6 a7 : Value} (h0 : cells[k + 0]? = some a0) (h1 : cells[k + 1]? = some a1) (h2 : cells[k + 2]? = some a2) (h3 : cells[k + 3]? = some a3) (h4 : cells[k + 4]? = some a4) (h5 : cells[k + 5]? = some a5) (h6 : cells[k + 6]? = some a6) (h7 : cells[k + 7]? = some a7) : (cells.drop k).take 8 = [a0, a1, a2, a3, a4, a5, a6, a7] := by
  have l := (List.getElem?_eq_some_iff.1 h7).1
  rw [List.drop_eq_getElem_cons (by omega), List.drop_eq_getElem_cons (by omega), List.drop_eq_getElem_cons (by omega), List.drop_eq_getElem_cons (by omega), List.drop_eq_getElem_cons (by omega), List.drop_eq_getElem_cons (by omega), List.drop_eq_getElem_cons (by omega), List.drop_eq_getElem_cons (by omega)]
  have e0 := (List.getElem?_eq_some_iff.1 h0).2
  have e1 := (List.getElem?_eq_some_iff.1 h1).2
  have e2 := (List.getElem?_eq_some_iff.1 h2).2
  have e3 := (List.getElem?_eq_some_iff.1 h3).2
  have e4 := (List.getElem?_eq_some_iff.1 h4).2
  have e5 := (List.getElem?_eq_some_iff.1 h5).2
  have e6 := (List.getElem?_eq_some_iff.1 h6).2
  have e7 := (List.getElem?_eq_some_iff.1 h7).2
  simp only [Nat.add_zero] at e0
  simp [e0, e1, e2, e3, e4, e5, e6, e7]
theorem arr8 {cs : Array Value} {a0 a1 a2 a3 a4 a5 a6 a7 : Value} (hs : cs.size = 8) (h0 : cs[0]? = some a0) (h1 : cs[1]? = some a1) (h2 : cs[2]? = some a2) (h3 : cs[3]? = some a3) (h4 : cs[4]? = some a4) (h5 : cs[5]? = some a5) (h6 : cs[6]? = some a6) (h7 : cs[7]? = some a7) : cs = #[a0, a1, a2, a3, a4, a5, a6, a7] := by
  apply Array.ext_getElem?
  intro i
  match i with
  | 0 => simpa using h0
  | 1 => simpa using h1
  | 2 => simpa using h2
  | 3 => simpa using h3
  | 4 => simpa using h4
  | 5 => simpa using h5
  | 6 => simpa using h6
  | 7 => simpa using h7
  | i + 8 => simp [Array.getElem?_eq_none (show cs.size ≤ i + 8 by omega)]
end Go.Proofs.Ytmaheecbohbilaa.Sl
