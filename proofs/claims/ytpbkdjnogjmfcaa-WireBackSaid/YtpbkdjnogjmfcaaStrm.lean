/- Streams as bytes: the plain law. -/
import Derived.Test.YtpbkdjnogjmfcaaNumLaw
import Derived.Test.YtpbkdjnogjmfcaaStr
import Derived.Test.YtpbkdjnogjmfcaaName
namespace Go.Proofs.Ytpbkdjnogjmfcaa

structure Strm where
  inc : Bool
  set : List W8
  frm : List W8
  til : List W8
  base : List W8
  goal : List W8
  cells : List (Int × List W8)
def zero32 : List W8 := List.replicate 32 0
def Strm.zero : Strm := ⟨false, [], [], [], zero32, zero32, []⟩
/-- The hash of bytes, as bytes. -/
def shaL (xs : List W8) : List W8 := (List.range 32).map (shaB xs)
theorem shaL_length (xs : List W8) : (shaL xs).length = 32 := by simp [shaL]
def cellAt (cs : List (Int × List W8)) (i : Nat) : Int × List W8 := cs.getD i (0, [])
def cellOk (c : Int × List W8) : Prop := 0 ≤ c.1 ∧ c.1 < 16 ∧ (c.2.length = 0 ∨ c.2.length = 256)
instance (c : Int × List W8) : Decidable (cellOk c) := by unfold cellOk; infer_instance
def mayC (cs : List (Int × List W8)) (i : Nat) : Prop := cellOk (cellAt cs i) ∧ (0 < i → (cellAt cs (i - 1)).1 < (cellAt cs i).1)
instance (cs : List (Int × List W8)) (i : Nat) : Decidable (mayC cs i) := by unfold mayC; infer_instance
def nameOk (xs : List W8) : Prop := isName (str xs)
instance (xs : List W8) : Decidable (nameOk xs) := by unfold nameOk; infer_instance
def namedS (s : Strm) : Prop := nameOk s.set ∧ nameOk s.til ∧ if s.inc = true then nameOk s.frm else s.frm = [] ∧ s.base = zero32
instance (s : Strm) : Decidable (namedS s) := by unfold namedS; infer_instance
/-- The hashes are 32 bytes long. -/
def Strm.ok (s : Strm) : Prop := s.base.length = 32 ∧ s.goal.length = 32
def mayS (s : Strm) : Prop := (∀ i, i < s.cells.length → mayC s.cells i) ∧ namedS s
instance (s : Strm) : Decidable (mayS s) := by unfold mayS; infer_instance

def cellB (c : Int × List W8) : List W8 := BitVec.ofInt 8 c.1 :: (if c.2.length = 0 then 72 else 67) :: c.2
def cellsB : List (Int × List W8) → List W8
  | [] => []
  | c :: cs => cellB c ++ cellsB cs
theorem cellsB_append (a b : List (Int × List W8)) : cellsB (a ++ b) = cellsB a ++ cellsB b := by
  induction a with
  | nil => rfl
  | cons c a ih => show cellB c ++ cellsB (a ++ b) = cellB c ++ cellsB a ++ cellsB b; rw [ih, List.append_assoc]
def nameB (xs : List W8) : List W8 := leb xs.length ++ xs
def headB (s : Strm) : List W8 := (if s.inc = true then 73 else 70) :: (nameB s.set ++ (nameB s.frm ++ (nameB s.til ++ (s.base ++ (s.goal ++ leb s.cells.length)))))
def aheadS (s : Strm) : List W8 := headB s ++ cellsB s.cells
def encS (s : Strm) : List W8 := aheadS s ++ shaL (aheadS s)

/-! What is left of the bytes, and the first error. -/
abbrev Tp := List W8 × Int
def tBytes (n : Nat) (t : Tp) : List W8 × Tp := if t.2 = 0 then (if n ≤ t.1.length then (t.1.take n, (t.1.drop n, 0)) else ([], (t.1, 2))) else ([], t)
def tByte (t : Tp) : W8 × Tp := ((tBytes 1 t).1.getD 0 0, (tBytes 1 t).2)
def tFail (is : Bool) (t : Tp) : Tp := if is = true ∧ t.2 = 0 then (t.1, 3) else t
def tShort (most : Nat) (t : Tp) : Nat × Tp :=
  if t.2 = 0 then (if (takeN t.1).1 = 0 then (if (takeN t.1).2.1 ≤ most then ((takeN t.1).2.1, (t.1.drop (takeN t.1).2.2, 0)) else (0, (t.1.drop (takeN t.1).2.2, 3))) else (0, (t.1, (takeN t.1).1))) else (0, t)
def tName (t : Tp) : List W8 × Tp := tBytes (tShort 12 t).1 (tShort 12 t).2
def tHash (t : Tp) : List W8 × Tp := (if (tBytes 32 t).1.length < 32 then zero32 else (tBytes 32 t).1, (tBytes 32 t).2)
def tCell (t : Tp) : (Int × List W8) × Tp :=
  let a := tByte t
  let m := tByte a.2
  if m.1 = 67 then ((((a.1.toNat : Nat) : Int), (tBytes 256 m.2).1), (tBytes 256 m.2).2) else if m.1 = 72 then ((((a.1.toNat : Nat) : Int), []), m.2) else ((((a.1.toNat : Nat) : Int), []), tFail true m.2)
def tCells : Nat → List (Int × List W8) → Tp → List (Int × List W8) × Tp
  | 0, acc, t => (acc, t)
  | k + 1, acc, t => if t.2 = 0 then tCells k (acc ++ [(tCell t).1]) (tCell t).2 else (acc, t)
/-- The parts of a stream, up to its hash. -/
def tHead (t : Tp) : Strm × Tp :=
  let m := tByte t
  let t0 := tFail (decide (m.1 ≠ 70) && decide (m.1 ≠ 73)) m.2
  let a := tName t0
  let b := tName a.2
  let c := tName b.2
  let p := tHash c.2
  let g := tHash p.2
  let n := tShort 16 g.2
  let cs := tCells n.1 [] n.2
  (⟨decide (m.1 = 73), a.1, b.1, c.1, p.1, g.1, cs.1⟩, cs.2)
def decS (xs : List W8) : Int × Strm :=
  if 5000 < xs.length then (4, Strm.zero) else
    let r := tHead (xs, 0)
    let h := tHash r.2
    let t9 := tFail (decide (0 < h.2.1.length)) h.2
    if t9.2 = 0 then (if shaL (xs.take (xs.length - r.2.1.length)) = h.1 then (if mayS r.1 then (0, r.1) else (3, Strm.zero)) else (14, Strm.zero)) else (t9.2, Strm.zero)

/-! A part that is read: with the error none, v is what it says, and its bytes are e. -/
theorem tBytes_err {n : Nat} {t : Tp} (h : t.2 ≠ 0) : tBytes n t = ([], t) := if_neg h
theorem tByte_err {t : Tp} (h : t.2 ≠ 0) : tByte t = (0, t) := by unfold tByte; rw [tBytes_err h]; rfl
theorem tFail_err {is : Bool} {t : Tp} (h : t.2 ≠ 0) : tFail is t = t := by unfold tFail; rw [if_neg (fun hh => h hh.2)]
theorem tShort_err {m : Nat} {t : Tp} (h : t.2 ≠ 0) : tShort m t = (0, t) := if_neg h
theorem tName_err {t : Tp} (h : t.2 ≠ 0) : tName t = ([], t) := by unfold tName; rw [tShort_err h]; exact tBytes_err h
theorem tHash_err {t : Tp} (h : t.2 ≠ 0) : tHash t = (zero32, t) := by unfold tHash; rw [tBytes_err h]; rfl
theorem tCell_err {t : Tp} (h : t.2 ≠ 0) : tCell t = ((0, []), t) := by
  unfold tCell
  simp only [tByte_err h]
  rw [if_neg (show ¬ (0 : W8) = 67 by decide), if_neg (show ¬ (0 : W8) = 72 by decide), tFail_err h]; rfl
theorem tCells_err {t : Tp} (h : t.2 ≠ 0) : ∀ (k : Nat) (acc : List (Int × List W8)), tCells k acc t = (acc, t)
  | 0, _ => rfl
  | _ + 1, _ => if_neg h
theorem tHead_err {t : Tp} (h : t.2 ≠ 0) : (tHead t).2 = t := by
  unfold tHead
  simp only [tByte_err h, tFail_err h, tName_err h, tHash_err h, tShort_err h, tCells_err h]
end Go.Proofs.Ytpbkdjnogjmfcaa
