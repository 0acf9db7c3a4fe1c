/- Names, plainly: what the runes of a text must be. -/
import Derived.Laws.RangeAny
import Derived.Laws.RangeString
namespace Go.Proofs.YtfmlkagcmkbebaaDoor

def lettersTab : List (Nat × Nat) := [(65, 90), (97, 122), (192, 214), (216, 246), (248, 383), (913, 929), (931, 937), (940, 974), (1024, 1119), (1329, 1366), (1488, 1514), (1569, 1594), (1601, 1610), (2308, 2361), (3585, 3632), (4304, 4346), (12353, 12438), (12449, 12538), (19968, 40959), (44032, 55203), (66560, 66639), (131072, 173791)]
def betw (r lo hi : Int) : Bool := decide (lo ≤ r) && decide (r ≤ hi)
def letter (r : Int) : Bool := lettersTab.any fun p => betw r p.1 p.2
def inName (r : Int) : Bool := betw r 48 57 || r == 45 || r == 95 || r == 46 || letter r
/-- The rune that stands at i: -1 for a byte that begins none. -/
def runeAt (s : ByteArray) (i : Nat) : Int := if Utf8.decode s i = (65533, 1) then -1 else ((Utf8.decode s i).1 : Int)
/-- From i on, k runes having been taken. -/
def nameF (s : ByteArray) : Nat → Nat → Nat → Bool
  | 0, _, k => decide (0 < k)
  | f + 1, i, k => if i < s.size then decide (k < 48) && inName (runeAt s i) && (decide (0 < k) || letter (runeAt s i)) && nameF s f (i + (Utf8.decode s i).2) (k + 1) else decide (0 < k)
def nameOk (s : ByteArray) : Bool := nameF s s.size 0 0
/-- The pieces of a text from i on: each one's rune, place and width. -/
def piecesF (s : ByteArray) : Nat → Nat → List (Int × Nat × Nat)
  | 0, _ => []
  | f + 1, i => if i < s.size then (runeAt s i, i, (Utf8.decode s i).2) :: piecesF s f (i + (Utf8.decode s i).2) else []
def nameL : List (Int × Nat × Nat) → Nat → Bool
  | [], k => decide (0 < k)
  | p :: l, k => decide (k < 48) && inName p.1 && (decide (0 < k) || letter p.1) && nameL l (k + 1)
theorem nameL_pieces (s : ByteArray) (f i k : Nat) : nameL (piecesF s f i) k = nameF s f i k := by
  induction f generalizing i k with
  | zero => rfl
  | succ f ih =>
    unfold piecesF nameF
    split
    · unfold nameL; rw [ih]
    · rfl
theorem letter_neg : letter (-1) = false := by decide
theorem inName_neg : inName (-1) = false := by decide
theorem inName_err : inName 65533 = false := by decide
theorem nameF_end (s : ByteArray) (f i k : Nat) (h : ¬ i < s.size) : nameF s f i k = decide (0 < k) := by
  cases f with
  | zero => rfl
  | succ f => simp [nameF, h]
theorem decode_width (s : ByteArray) (i : Nat) (h : i < s.size) : 1 ≤ (Utf8.decode s i).2 := by
  by_cases ha : (s[i]'h).toNat < 128
  · rw [decode_ascii s i h ha]; exact Nat.le_refl _
  · exact (decode_high s i h (by omega)).2
/-- The rune of the range over a text is the piece's, or both are refused. -/
theorem inName_rune (s : ByteArray) (i : Nat) : inName (runeAt s i) = inName ((Utf8.decode s i).1 : Int) := by
  unfold runeAt
  split
  · rename_i h; rw [h]; exact inName_neg.trans inName_err.symm
  · rfl
theorem letter_rune (s : ByteArray) (i : Nat) : letter (runeAt s i) = letter ((Utf8.decode s i).1 : Int) := by
  unfold runeAt
  split
  · rename_i h; rw [h]; decide
  · rfl
/-- The four ways of a piece, over the bytes as numbers. -/
def b0 (s : ByteArray) (i : Nat) : Nat := (s.get! i).toNat
def cont (s : ByteArray) (i : Nat) : Bool := decide (i < s.size) && b0 s i / 64 == 2
theorem decode_eq (s : ByteArray) (i : Nat) : Utf8.decode s i =
    if b0 s i < 128 then (b0 s i, 1)
    else if b0 s i / 32 == 6 && cont s (i + 1) then
      if (b0 s i % 32) * 64 + b0 s (i + 1) % 64 ≥ 128 then ((b0 s i % 32) * 64 + b0 s (i + 1) % 64, 2) else (65533, 1)
    else if b0 s i / 16 == 14 && cont s (i + 1) && cont s (i + 2) then
      if (b0 s i % 16) * 4096 + (b0 s (i + 1) % 64) * 64 + b0 s (i + 2) % 64 ≥ 2048 && Utf8.valid (((b0 s i % 16) * 4096 + (b0 s (i + 1) % 64) * 64 + b0 s (i + 2) % 64 : Nat) : Int) then ((b0 s i % 16) * 4096 + (b0 s (i + 1) % 64) * 64 + b0 s (i + 2) % 64, 3) else (65533, 1)
    else if b0 s i / 8 == 30 && cont s (i + 1) && cont s (i + 2) && cont s (i + 3) then
      if (b0 s i % 8) * 262144 + (b0 s (i + 1) % 64) * 4096 + (b0 s (i + 2) % 64) * 64 + b0 s (i + 3) % 64 ≥ 65536 && Utf8.valid (((b0 s i % 8) * 262144 + (b0 s (i + 1) % 64) * 4096 + (b0 s (i + 2) % 64) * 64 + b0 s (i + 3) % 64 : Nat) : Int) then ((b0 s i % 8) * 262144 + (b0 s (i + 1) % 64) * 4096 + (b0 s (i + 2) % 64) * 64 + b0 s (i + 3) % 64, 4) else (65533, 1)
    else (65533, 1) := rfl
end Go.Proofs.YtfmlkagcmkbebaaDoor
