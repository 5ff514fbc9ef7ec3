/- A part of the proof of RowSpeakOffers, RowSpeakMessages: lemmas alone, without conditions. -/
import Derived.Test.YtpcnjabfiahhhaaGreatDoorK15
import Derived.Test.YtpcnjabfiahhhaaGreatDoorK16
import Derived.Test.YtpcnjabfiahhhaaGreatDoorK17
import Derived.Test.YtpcnjabfiahhhaaGreatDoorK18
import Derived.Test.YtpcnjabfiahhhaaGreatDoorK19
set_option linter.all false
namespace Go.Proofs.YtpcnjabfiahhhaaGreatDoor
open Go.Abs
set_option maxRecDepth 100000
def aMu (k : Option CF) (f : FuncId) : Option CF := match f with | 5 => some cJ | 6 => some cX | 14 => some j5 | 15 => some cA | 16 => some z6 | 18 => some rO | 22 => some mR | 23 => some gV | 24 => some cM | 25 => some tX | 26 => some jX | 27 => some bB | 28 => some z7 | 30 => some aM | 31 => some rP | 42 => some tY | 43 => some j6 | 44 => some jC | 45 => some tZ | 46 => some pB | 47 => some z8 | 48 => some nJ | 49 => some cV | 53 => some dQ | 54 => some nK | 55 => some bI | 56 => some uA | 57 => some nB | 58 => some H5 | 59 => some wH | 62 => some pH | 63 => some cP | 65 => some tB | 66 => some cZ | 70 => some H6 | 71 => some jV | 72 => some pI | 73 => some nC | 74 => some pJ | 75 => some H7 | _ => k
theorem aMv {k : Option CF} {f : FuncId} {cf : CF} (h : aMu k f = some cf) (hk : k = some cf → aG Tryz.prog f = true ∧ cB Tryz.prog aK f cf = true) : aG Tryz.prog f = true ∧ cB Tryz.prog aK f cf = true := by
  unfold aMu at h
  split at h
  · cases h; exact aI xB
  · cases h; exact aI zH
  · cases h; exact aI V4
  · cases h; exact aI aAr
  · cases h; exact aI aAs
  · cases h; exact aI aAt
  · cases h; exact aI D4
  · cases h; exact aI D5
  · cases h; exact aI D6
  · cases h; exact aI aE3
  · cases h; exact aI V6
  · cases h; exact aI V7
  · cases h; exact aI aAu
  · cases h; exact aI aAv
  · cases h; exact aI aAw
  · cases h; exact aI aE4
  · cases h; exact aI W3
  · cases h; exact aI L4
  · cases h; exact aI aE5
  · cases h; exact aI aGq
  · cases h; exact aI aAx
  · cases h; exact aI aE6
  · cases h; exact aI L5
  · cases h; exact aI aAy
  · cases h; exact aI aE7
  · cases h; exact aI W5
  · cases h; exact aI aE8
  · cases h; exact aI aCz
  · cases h; exact aI aD0
  · cases h; exact aI aF3
  · cases h; exact aI O7
  · cases h; exact aI O8
  · cases h; exact aI aD1
  · cases h; exact aI Z2
  · cases h; exact aI aD2
  · cases h; exact aI O9
  · cases h; exact aI P0
  · cases h; exact aI aD3
  · cases h; exact aI P1
  · cases h; exact aI aD4
  · exact hk h
def aMw (k : Option CF) (f : FuncId) : Option CF := match f with | 76 => some t3 | 77 => some mN | 78 => some tC | 79 => some lL | 80 => some eE | 81 => some tD | 82 => some tE | 84 => some mO | 86 => some fC | 87 => some qY | 88 => some t4 | 89 => some zQ | 90 => some tF | 91 => some pK | 92 => some cN | 93 => some wI | 94 => some nZ | 95 => some tK | 96 => some pP | 97 => some tL | 106 => some I6 | 107 => some qG | 108 => some sM | 109 => some qH | 110 => some sN | 111 => some oX | 112 => some zW | 113 => some v5 | 114 => some pQ | 115 => some I7 | 116 => some I8 | 117 => some S8 | 118 => some fV | 119 => some i8 | 120 => some yV | 121 => some pR | 122 => some kL | 123 => some cH | 124 => some rH | 125 => some yW | _ => k
theorem aMy {k : Option CF} {f : FuncId} {cf : CF} (h : aMw k f = some cf) (hk : k = some cf → aG Tryz.prog f = true ∧ cB Tryz.prog aK f cf = true) : aG Tryz.prog f = true ∧ cB Tryz.prog aK f cf = true := by
  unfold aMw at h
  split at h
  · cases h; exact aI Z5
  · cases h; exact aI B6
  · cases h; exact aI aD5
  · cases h; exact aI Z6
  · cases h; exact aI aD6
  · cases h; exact aI l9
  · cases h; exact aI aD7
  · cases h; exact aI B7
  · cases h; exact aI m0
  · cases h; exact aI Z7
  · cases h; exact aI Z8
  · cases h; exact aI aHe
  · cases h; exact aI aD8
  · cases h; exact aI P8
  · cases h; exact aI aF4
  · cases h; exact aI aF5
  · cases h; exact aI K4
  · cases h; exact aI aDi
  · cases h; exact aI S5
  · cases h; exact aI aDj
  · cases h; exact aI aDk
  · cases h; exact aI xW
  · cases h; exact aI d0
  · cases h; exact aI xX
  · cases h; exact aI d6
  · cases h; exact aI aFq
  · cases h; exact aI aHy
  · cases h; exact aI aAd
  · cases h; exact aI S7
  · cases h; exact aI aDl
  · cases h; exact aI aDm
  · cases h; exact aI aFr
  · cases h; exact aI lY
  · cases h; exact aI S9
  · cases h; exact aI K5
  · cases h; exact aI T0
  · cases h; exact aI m9
  · cases h; exact aI K6
  · cases h; exact aI aAe
  · cases h; exact aI K7
  · exact hk h
def aMz (k : Option CF) (f : FuncId) : Option CF := match f with | 126 => some mP | 127 => some cL | 128 => some iT | 129 => some I9 | 130 => some v7 | 131 => some tM | 132 => some tN | 133 => some pT | 134 => some eT | 135 => some zX | 136 => some tO | 137 => some oA | 141 => some dL | 143 => some qV | 144 => some qI | 145 => some qJ | 146 => some sO | 147 => some tP | 148 => some v9 | 149 => some lR | 150 => some nX | 156 => some I2 | 157 => some hU | 158 => some xP | 159 => some rC | 160 => some cK | 161 => some iQ | 162 => some cC | 163 => some hY | 164 => some iS | 165 => some tG | 166 => some gL | 167 => some wP | 168 => some rD | 169 => some I3 | 170 => some u0 | 171 => some tH | 172 => some tI | 174 => some dA | 181 => some dZ | _ => k
theorem aN0 {k : Option CF} {f : FuncId} {cf : CF} (h : aMz k f = some cf) (hk : k = some cf → aG Tryz.prog f = true ∧ cB Tryz.prog aK f cf = true) : aG Tryz.prog f = true ∧ cB Tryz.prog aK f cf = true := by
  unfold aMz at h
  split at h
  · cases h; exact aI C5
  · cases h; exact aI lQ
  · cases h; exact aI yX
  · cases h; exact aI aDn
  · cases h; exact aI aAg
  · cases h; exact aI aDo
  · cases h; exact aI aDp
  · cases h; exact aI T4
  · cases h; exact aI aAh
  · cases h; exact aI aHz
  · cases h; exact aI aDq
  · cases h; exact aI vE
  · cases h; exact aI oY
  · cases h; exact aI yY
  · cases h; exact aI xY
  · cases h; exact aI xZ
  · cases h; exact aI d7
  · cases h; exact aI aDr
  · cases h; exact aI aAi
  · cases h; exact aI w9
  · cases h; exact aI J9
  · cases h; exact aI aDc
  · cases h; exact aI nN
  · cases h; exact aI C2
  · cases h; exact aI aA4
  · cases h; exact aI lO
  · cases h; exact aI yS
  · cases h; exact aI aDd
  · cases h; exact aI xV
  · cases h; exact aI yT
  · cases h; exact aI aDe
  · cases h; exact aI wO
  · cases h; exact aI aFn
  · cases h; exact aI aA5
  · cases h; exact aI aDf
  · cases h; exact aI aA7
  · cases h; exact aI aDg
  · cases h; exact aI aDh
  · cases h; exact aI aA8
  · cases h; exact aI rE
  · exact hk h
def aN1 (k : Option CF) (f : FuncId) : Option CF := match f with | 182 => some i5 | 183 => some sL | 184 => some i6 | 185 => some u6 | 186 => some u7 | 187 => some u9 | 188 => some v3 | 189 => some nY | 192 => some eY | 193 => some gS | 194 => some eZ | 195 => some fN | 196 => some fE | 197 => some dR | 198 => some eM | 199 => some gF | 200 => some tQ | 201 => some tR | 202 => some rI | 203 => some pV | 204 => some oB | 205 => some rJ | 206 => some rK | 207 => some pW | 208 => some y0 | 209 => some tS | 210 => some rL | 217 => some y5 | 218 => some eO | 219 => some zA | 220 => some y6 | 221 => some nG | 222 => some gT | 223 => some nH | 224 => some oC | 225 => some eP | 226 => some iN | 227 => some fU | 228 => some oE | 229 => some tT | _ => k
theorem aN2 {k : Option CF} {f : FuncId} {cf : CF} (h : aN1 k f = some cf) (hk : k = some cf → aG Tryz.prog f = true ∧ cB Tryz.prog aK f cf = true) : aG Tryz.prog f = true ∧ cB Tryz.prog aK f cf = true := by
  unfold aN1 at h
  split at h
  · cases h; exact aI R3
  · cases h; exact aI c9
  · cases h; exact aI R4
  · cases h; exact aI aA9
  · cases h; exact aI aAa
  · cases h; exact aI aAb
  · cases h; exact aI aAc
  · cases h; exact aI K2
  · cases h; exact aI kP
  · cases h; exact aI mX
  · cases h; exact aI kQ
  · cases h; exact aI lP
  · cases h; exact aI lE
  · cases h; exact aI iI
  · cases h; exact aI kI
  · cases h; exact aI mI
  · cases h; exact aI n5
  · cases h; exact aI n6
  · cases h; exact aI aAj
  · cases h; exact aI U0
  · cases h; exact aI L0
  · cases h; exact aI aAk
  · cases h; exact aI aAl
  · cases h; exact aI U1
  · cases h; exact aI aKu
  · cases h; exact aI aDw
  · cases h; exact aI aAm
  · cases h; exact aI aAn
  · cases h; exact aI kJ
  · cases h; exact aI L1
  · cases h; exact aI aAo
  · cases h; exact aI uP
  · cases h; exact aI mY
  · cases h; exact aI uQ
  · cases h; exact aI vH
  · cases h; exact aI kK
  · cases h; exact aI oD
  · cases h; exact aI vI
  · cases h; exact aI L2
  · cases h; exact aI aDx
  · exact hk h
def aN3 (k : Option CF) (f : FuncId) : Option CF := match f with | 230 => some rM | 231 => some U4 | 232 => some wT | 233 => some tU | 238 => some fO | 239 => some y7 | 240 => some xR | 241 => some iO | 242 => some wV | 244 => some zB | 245 => some tV | 246 => some tW | 266 => some oM | 268 => some qW | 274 => some qK | _ => k
theorem aN4 {k : Option CF} {f : FuncId} {cf : CF} (h : aN3 k f = some cf) (hk : k = some cf → aG Tryz.prog f = true ∧ cB Tryz.prog aK f cf = true) : aG Tryz.prog f = true ∧ cB Tryz.prog aK f cf = true := by
  unfold aN3 at h
  split at h
  · cases h; exact aI aAp
  · cases h; exact aI aG8
  · cases h; exact aI aG9
  · cases h; exact aI aDz
  · cases h; exact aI lS
  · cases h; exact aI aAq
  · cases h; exact aI C8
  · cases h; exact aI oF
  · cases h; exact aI aGa
  · cases h; exact aI L3
  · cases h; exact aI n7
  · cases h; exact aI n8
  · cases h; exact aI wW
  · cases h; exact aI zD
  · cases h; exact aI yA
  · exact hk h
def tab : Tab := { code := fun f => aMu (aMw (aMz (aN1 (aN3 none f) f) f) f) f, prim := fun f => none }
theorem aHf : Tryz.prog.follows .mixedOrders = true := by kernel_rfl
theorem aN5 : pureL.all (fun f => tab.pu f) = true := by kernel_rfl
theorem aN6 : TabOK Tryz.prog tab aK := by
  refine ⟨aHf, fun f cf _ h => (fun h => aMv h (fun h => aMy h (fun h => aN0 h (fun h => aN2 h (fun h => aN4 h (fun h => by cases h)))))) h, fun f p h => ?_, fun f h => ?_⟩
  · cases h
  · exact List.all_eq_true.1 aN5 f (by simpa [aK] using h)
end Go.Proofs.YtpcnjabfiahhhaaGreatDoor
