/- Records, plainly: what Check answers. -/
import Derived.Test.YtfmlkagcmkbebaaDoorTc
namespace Go.Proofs.YtfmlkagcmkbebaaDoor
open Go.RowKit

/-- A record: its ten numbers, its name, its data. -/
structure Rc where
  v : Int
  kd : Int
  sg : Int
  st : Int
  tr : Int
  tm : Int
  la : Int
  co : Int
  cn : Int
  pv : Int
  nm : ByteArray
  da : List UInt8
def Rc.num (r : Rc) : Nat → Int
  | 0 => r.v
  | 1 => r.kd
  | 2 => r.sg
  | 3 => r.st
  | 4 => r.tr
  | 5 => r.tm
  | 6 => r.la
  | 7 => r.co
  | 8 => r.cn
  | 9 => r.pv
  | _ => 0
/-- As a value, dv its data's slice. -/
def Rc.cells (r : Rc) (dv : Value) : Array Value := #[.int .i64 r.v, .int .i64 r.kd, .int .i64 r.sg, .int .i64 r.st, .int .i64 r.tr, .int .i64 r.tm, .int .i64 r.la, .int .i64 r.co, .int .i64 r.cn, .int .i64 r.pv, .string r.nm, dv]
def Rc.val (r : Rc) (dv : Value) : Value := .agg (r.cells dv)
def mayTab : List Nat := [2062, 14, 2062, 2062, 14, 2062, 6, 3366, 62, 2094, 2158, 62, 2094, 38, 3878, 62, 2094, 2286, 62, 2094, 166]
def tagsOf (v k : Nat) : Nat := mayTab.getD ((v - 1) * 7 + (k - 1)) 0
def bitB (m t : Nat) : Bool := decide (m / 2 ^ t % 2 = 1)
def zeroB (r : Rc) (t : Nat) : Bool := if t = 10 then r.nm.toList.isEmpty else if t = 11 then ((r.da.length : Int) == 0) else r.num t == 0
def withinC (n lo hi : Int) : Int := if n < lo ∨ hi < n then 34 else 0
def oldB (r : Rc) : Bool := r.v == 1 && r.kd == 1
def boundsC (r : Rc) (t : Nat) : Int :=
  if t = 3 then (if oldB r then withinC r.st 1 32 else withinC r.st 0 31)
  else if t = 4 then withinC r.tr 1 1000
  else if t = 5 then withinC r.tm 0 9223372036854775807
  else if t = 6 then withinC r.la 0 1
  else if t = 7 then (if r.kd = 7 then withinC r.co 0 2 else 0)
  else if t = 8 then withinC r.cn 1 32
  else if t = 9 then withinC r.pv 0 r.cn
  else if t = 10 then labelC r.nm
  else if t = 11 then (if 16384 < r.da.length then 36 else if oldB r then labelC ⟨r.da.toArray⟩ else 0)
  else 0
/-- From the tag t on, f tags. -/
def ckF (r : Rc) (m : Nat) : Nat → Nat → Int
  | 0, _ => 0
  | f + 1, t => if bitB m t then (if boundsC r t = 0 then ckF r m f (t + 1) else boundsC r t) else (if zeroB r t then ckF r m f (t + 1) else 33)
def checkC (r : Rc) : Int :=
  if r.v < 1 ∨ 3 < r.v then 3 else if r.kd < 1 ∨ 7 < r.kd then 31 else if r.sg < 1 then 32 else ckF r (tagsOf r.v.toNat r.kd.toNat) 9 3
end Go.Proofs.YtfmlkagcmkbebaaDoor
