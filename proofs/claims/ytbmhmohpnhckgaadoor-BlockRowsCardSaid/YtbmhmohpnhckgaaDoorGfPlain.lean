/- plain: the field of 256 elements, as the program reckons it -/
namespace Lb
def xt (a : UInt8) : UInt8 := if a &&& 128 = 0 then a <<< 1 else (a <<< 1) ^^^ 27
def mulGo : Nat → UInt8 → UInt8 → UInt8 → UInt8
  | 0, _, _, out => out
  | n+1, a, b, out => mulGo n (xt a) (b >>> 1) (if b &&& 1 = 1 then out ^^^ a else out)
def gmul (a b : UInt8) : UInt8 := mulGo 8 a b 0
def invGo : Nat → UInt8 → UInt8 → UInt8
  | 0, _, out => out
  | n+1, a, out => invGo n (gmul a a) (gmul out (gmul a a))
def ginv (a : UInt8) : UInt8 := invGo 7 a 1
def rotl (a : UInt8) (n : Nat) : UInt8 := UInt8.ofNat ((a.toNat * 2^n % 256) ||| (a.toNat / 2^(8-n)))
def gbox (a : UInt8) : UInt8 := ginv a ^^^ rotl (ginv a) 1 ^^^ rotl (ginv a) 2 ^^^ rotl (ginv a) 3 ^^^ rotl (ginv a) 4 ^^^ 99
def gunbox (a : UInt8) : UInt8 := ginv (rotl a 1 ^^^ rotl a 3 ^^^ rotl a 6 ^^^ 5)
/-- the reference: the product of polynomials, and its rest -/
def rIn (a b i : Nat) : Nat → Nat → Nat
  | 0, p => p
  | n+1, p => rIn a b i n (if (a.testBit i && b.testBit (7-n)) = true then p ^^^ 2^(i+(7-n)) else p)
def rOut (a b : Nat) : Nat → Nat → Nat
  | 0, p => p
  | n+1, p => rOut a b n (rIn a b (7-n) 8 p)
def rRed : Nat → Nat → Nat
  | 0, p => p
  | n+1, p => rRed n (if p.testBit (n+8) = true then p ^^^ (283 * 2^n) else p)
def refMul (a b : UInt8) : UInt8 := UInt8.ofNat (rRed 7 (rOut a.toNat b.toNat 8 0))
/-- the reference's search: from 256 - n on -/
def refInvGo : Nat → UInt8 → UInt8
  | 0, _ => 0
  | n+1, x => if refMul x (UInt8.ofNat (255 - n)) = 1 then UInt8.ofNat (255 - n) else refInvGo n x
def refInv (x : UInt8) : UInt8 := refInvGo 255 x
def affIn (b i : Nat) : Nat → Nat → Nat
  | 0, s => s
  | n+1, s => affIn b i n (s ^^^ (b / 2 ^ ((i + (8 - n)) % 8)))
def affOut (b : Nat) : Nat → Nat → Nat
  | 0, o => o
  | n+1, o => affOut b n (o ||| (affIn b (7-n) 5 (99 / 2 ^ (7-n)) % 2) * 2 ^ (7-n))
def refAff (x : UInt8) : UInt8 := UInt8.ofNat (affOut x.toNat 8 0)
end Lb
