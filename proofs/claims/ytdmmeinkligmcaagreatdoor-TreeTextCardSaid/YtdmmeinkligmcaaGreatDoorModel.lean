/- What the program's functions compute, in plain Lean over lists of bytes: no program in sight. -/
import Derived.Lib.IndexMore
import Derived.Lib.SlTrimSet
import Derived.Lib.Strings
import Derived.Lib.RuneBytes
namespace Go.Proofs.YtdmmeinkligmcaaGreatDoor
abbrev Bs := List UInt8
/-- Is a name one of some (tree.is)? -/
def isOne (all name : Bs) : Bool := !name.isEmpty && !decide (0 ≤ Lib.indexByte name 32) && Lib.contains ([32] ++ all ++ [32]) ([32] ++ name ++ [32])

def voidsL : Bs := [32, 97, 114, 101, 97, 32, 98, 97, 115, 101, 32, 98, 114, 32, 99, 111, 108, 32, 101, 109, 98, 101, 100, 32, 104, 114, 32, 105, 109, 103, 32, 105, 110, 112, 117, 116, 32, 108, 105, 110, 107, 32, 109, 101, 116, 97, 32, 115, 111, 117, 114, 99, 101, 32, 116, 114, 97, 99, 107, 32, 119, 98, 114, 32]
def blocksL : Bs := [97, 100, 100, 114, 101, 115, 115, 32, 97, 114, 116, 105, 99, 108, 101, 32, 97, 115, 105, 100, 101, 32, 98, 108, 111, 99, 107, 113, 117, 111, 116, 101, 32, 99, 101, 110, 116, 101, 114, 32, 100, 101, 116, 97, 105, 108, 115, 32, 100, 105, 118, 32, 100, 108, 32, 102, 105, 101, 108, 100, 115, 101, 116, 32, 102, 105, 103, 117, 114, 101, 32, 102, 111, 111, 116, 101, 114, 32, 102, 111, 114, 109, 32, 104, 49, 32, 104, 50, 32, 104, 51, 32, 104, 52, 32, 104, 53, 32, 104, 54, 32, 104, 101, 97, 100, 101, 114, 32, 104, 114, 32, 108, 105, 32, 109, 97, 105, 110, 32, 110, 97, 118, 32, 111, 108, 32, 112, 32, 112, 114, 101, 32, 115, 101, 99, 116, 105, 111, 110, 32, 116, 97, 98, 108, 101, 32, 117, 108, 32, 100, 100, 32, 100, 116]
def wallsL : Bs := [32, 116, 97, 98, 108, 101, 32, 98, 117, 116, 116, 111, 110, 32, 117, 108, 32, 111, 108, 32, 100, 108, 32, 115, 118, 103, 32, 109, 97, 116, 104, 32, 116, 101, 109, 112, 108, 97, 116, 101, 32, 111, 98, 106, 101, 99, 116, 32, 97, 112, 112, 108, 101, 116, 32, 109, 97, 114, 113, 117, 101, 101, 32]
def headsL : Bs := [104, 49, 32, 104, 50, 32, 104, 51, 32, 104, 52, 32, 104, 53, 32, 104, 54]
def ddL : Bs := [100, 100, 32, 100, 116]
def tdL : Bs := [116, 100, 32, 116, 104, 32, 116, 114]
/-- The begins that close an element, by that (tree.closers). -/
def closersL (o : Bs) : Bs :=
  if o == [112] then blocksL
  else if o == [100, 100] || o == [100, 116] then ddL
  else if o == [116, 100] || o == [116, 104] then tdL
  else if o == [108, 105] || o == [97] || o == [111, 112, 116, 105, 111, 110] || o == [116, 114] || o == [110, 111, 98, 114] || o == [98, 117, 116, 116, 111, 110] then o
  else if isOne headsL o then headsL
  else []
def voidB (name : Bs) : Bool := isOne voidsL name
def closesB (name o : Bs) : Bool := isOne (closersL o) name

def lowerB (c : UInt8) : UInt8 := if 65 ≤ c.toNat ∧ c.toNat ≤ 90 then c + 32 else c
/-- Letters made small. -/
def smallL (l : Bs) : Bs := l.map lowerB
def smallTo (k : Nat) (l : Bs) : Bs := (l.take k).map lowerB ++ l.drop k
theorem smallTo_length (k : Nat) (l : Bs) : (smallTo k l).length = l.length := by
  simp [smallTo]; omega
theorem smallTo_at (k : Nat) (l : Bs) : (smallTo k l).getD k 0 = l.getD k 0 := by
  simp only [smallTo, List.getD_eq_getElem?_getD, List.getElem?_append, List.length_map, List.length_take]
  split
  · omega
  · rw [List.getElem?_drop]
    by_cases h : k ≤ l.length
    · rw [show k + (k - min k l.length) = k by omega]
    · rw [List.getElem?_eq_none (by omega), List.getElem?_eq_none (by omega)]
theorem smallTo_succ (k : Nat) (l : Bs) (h : k < l.length) (j : Nat) : (smallTo (k + 1) l).getD j 0 = if j = k then lowerB (l.getD k 0) else (smallTo k l).getD j 0 := by
  simp only [smallTo, List.getD_eq_getElem?_getD, List.getElem?_append, List.length_map, List.length_take, List.getElem?_map, List.getElem?_take, List.getElem?_drop]
  by_cases e : j = k
  · subst e
    rw [if_pos (by omega), if_pos rfl, if_pos (by omega), List.getElem?_eq_getElem h]; rfl
  · rw [if_neg e]
    by_cases hj : j < k
    · rw [if_pos (by omega), if_pos (by omega), if_pos (by omega), if_pos hj]
    · rw [if_neg (by omega), if_neg (by omega)]
      congr 2; omega
theorem smallTo_all (l : Bs) : smallTo l.length l = smallL l := by simp [smallTo, smallL]
theorem smallTo_zero (l : Bs) : smallTo 0 l = l := by simp [smallTo]

def highL : List Int := [8364, 129, 8218, 402, 8222, 8230, 8224, 8225, 710, 8240, 352, 8249, 338, 141, 381, 143, 144, 8216, 8217, 8220, 8221, 8226, 8211, 8212, 732, 8482, 353, 8250, 339, 157, 382, 376]
/-- The sign of a byte in windows-1252. -/
def signOf (c : UInt8) : Int := if 128 ≤ c.toNat ∧ c.toNat < 160 then highL.getD (c.toNat - 128) 0 else c.toNat
/-- chars.singles: signs of one byte each. -/
def singlesL (l : Bs) : Bs := l.flatMap fun c => Lib.encodeRune (signOf c)
theorem singlesL_snoc (l : Bs) (c : UInt8) : singlesL (l ++ [c]) = singlesL l ++ Lib.encodeRune (signOf c) := by simp [singlesL]
theorem singlesL_len (l : Bs) : (singlesL l).length ≤ 4 * l.length := by
  induction l with
  | nil => simp [singlesL]
  | cons c l ih =>
    have h := Lib.runeCells_le (signOf c)
    rw [Lib.runeCells_length] at h
    have : singlesL (c :: l) = Lib.encodeRune (signOf c) ++ singlesL l := by simp [singlesL]
    rw [this, List.length_append, List.length_cons]
    omega

/-- The number of a digit of a base. -/
def digB (base : Nat) (c : UInt8) : Option Nat :=
  if 48 ≤ c.toNat ∧ c.toNat ≤ 57 then (if c.toNat - 48 < base then some (c.toNat - 48) else none)
  else if 97 ≤ (c ||| 32).toNat ∧ (c ||| 32).toNat ≤ 122 then (if (c ||| 32).toNat - 97 + 10 < base then some ((c ||| 32).toNat - 97 + 10) else none)
  else none
def parseD (base : Nat) : Nat → Bs → Option Nat
  | acc, [] => some acc
  | acc, c :: l => match digB base c with
    | some d => parseD base (acc * base + d) l
    | none => none

/-- ent.digits. -/
def digitsL (base most : Nat) (s : Bs) : Option Nat := if 1 ≤ s.length ∧ s.length ≤ most then parseD base 0 s else none
/-- ent.numbered. -/
def numberedL (n : Nat) : Bs := if n = 0 then [239, 191, 189] else if 128 ≤ n ∧ n ≤ 159 then singlesL [UInt8.ofNat n] else Lib.encodeRune n

/-- A number's text ahead: the base, and the most digits. -/
def numHead : Bs → Bs × Nat × Nat
  | c :: r => if c ||| 32 = 120 then (r, 16, 6) else (c :: r, 10, 7)
  | [] => ([], 10, 7)
end Go.Proofs.YtdmmeinkligmcaaGreatDoor
