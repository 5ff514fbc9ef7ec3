/- A part of the proof of RowSpeakSync: lemmas alone, without conditions. -/
import Derived.Test.YtpcnjabfiahhhaaGreatDoorJ15
import Derived.Test.YtpcnjabfiahhhaaGreatDoorJ16
import Derived.Test.YtpcnjabfiahhhaaGreatDoorJ17
import Derived.Test.YtpcnjabfiahhhaaGreatDoorJ18
import Derived.Test.YtpcnjabfiahhhaaGreatDoorJ19
set_option linter.all false
namespace Go.Proofs.YtpcnjabfiahhhaaGreatDoor
open Go.Abs
set_option maxRecDepth 100000
def aKd (k : Option CF) (f : FuncId) : Option CF := match f with | 3 => some eL | 14 => some zI | 15 => some bT | 16 => some kY | 17 => some dG | 18 => some qD | 22 => some lX | 28 => some o7 | 30 => some aM | 31 => some qE | 42 => some sT | 43 => some zJ | 44 => some iF | 45 => some sU | 46 => some oA | 47 => some cP | 48 => some mO | 49 => some cO | 50 => some qF | 56 => some sV | 57 => some sW | 58 => some D3 | 59 => some vW | 62 => some oU | 63 => some cH | 65 => some sX | 66 => some cQ | 70 => some C2 | 71 => some jB | 72 => some oM | 73 => some mK | 74 => some oN | 75 => some C3 | 76 => some m9 | 77 => some lU | 78 => some sH | 79 => some kT | 80 => some dQ | 81 => some jO | 82 => some sI | _ => k
theorem aKe {k : Option CF} {f : FuncId} {cf : CF} (h : aKd k f = some cf) (hk : k = some cf → aF Tryz.prog f = true ∧ cA Tryz.prog aK f cf = true) : aF Tryz.prog f = true ∧ cA Tryz.prog aK f cf = true := by
  unfold aKd at h
  split at h
  · cases h; exact aI f5
  · cases h; exact aI Q0
  · cases h; exact aI W7
  · cases h; exact aI W8
  · cases h; exact aI W9
  · cases h; exact aI X0
  · cases h; exact aI w9
  · cases h; exact aI X1
  · cases h; exact aI X2
  · cases h; exact aI X3
  · cases h; exact aI aCg
  · cases h; exact aI Q7
  · cases h; exact aI F4
  · cases h; exact aI aCh
  · cases h; exact aI aFb
  · cases h; exact aI X4
  · cases h; exact aI aCi
  · cases h; exact aI F5
  · cases h; exact aI X5
  · cases h; exact aI aCj
  · cases h; exact aI aCk
  · cases h; exact aI aCl
  · cases h; exact aI aFc
  · cases h; exact aI Q8
  · cases h; exact aI Q9
  · cases h; exact aI aCm
  · cases h; exact aI X8
  · cases h; exact aI aBv
  · cases h; exact aI M6
  · cases h; exact aI M7
  · cases h; exact aI aBw
  · cases h; exact aI M8
  · cases h; exact aI aBx
  · cases h; exact aI V2
  · cases h; exact aI u7
  · cases h; exact aI aBy
  · cases h; exact aI V3
  · cases h; exact aI aBz
  · cases h; exact aI c9
  · cases h; exact aI aC0
  · exact hk h
def aKf (k : Option CF) (f : FuncId) : Option CF := match f with | 84 => some lV | 87 => some pZ | 88 => some n4 | 89 => some yD | 90 => some sJ | 91 => some oO | 92 => some cE | 93 => some vQ | 94 => some nG | 95 => some sK | 96 => some oP | 97 => some sL | 106 => some C4 | 107 => some pC | 108 => some rE | 109 => some pD | 110 => some rG | 111 => some nW | 112 => some yE | 113 => some n5 | 114 => some oQ | 115 => some C8 | 116 => some C9 | 117 => some O9 | 118 => some fD | 119 => some zG | 120 => some xO | 121 => some oR | 122 => some jP | 123 => some bY | 124 => some qB | 125 => some xP | 126 => some lW | 129 => some D0 | 130 => some n9 | 131 => some sO | 132 => some sP | 133 => some oT | 134 => some eD | 135 => some yG | _ => k
theorem aKg {k : Option CF} {f : FuncId} {cf : CF} (h : aKf k f = some cf) (hk : k = some cf → aF Tryz.prog f = true ∧ cA Tryz.prog aK f cf = true) : aF Tryz.prog f = true ∧ cA Tryz.prog aK f cf = true := by
  unfold aKf at h
  split at h
  · cases h; exact aI u9
  · cases h; exact aI V4
  · cases h; exact aI V5
  · cases h; exact aI aGf
  · cases h; exact aI aC1
  · cases h; exact aI N5
  · cases h; exact aI aEo
  · cases h; exact aI aEp
  · cases h; exact aI E7
  · cases h; exact aI aC2
  · cases h; exact aI N6
  · cases h; exact aI aC3
  · cases h; exact aI aC4
  · cases h; exact aI wL
  · cases h; exact aI yL
  · cases h; exact aI wM
  · cases h; exact aI yM
  · cases h; exact aI aEq
  · cases h; exact aI aGg
  · cases h; exact aI V6
  · cases h; exact aI N8
  · cases h; exact aI aC6
  · cases h; exact aI aC7
  · cases h; exact aI aEz
  · cases h; exact aI lL
  · cases h; exact aI P0
  · cases h; exact aI E8
  · cases h; exact aI P1
  · cases h; exact aI d6
  · cases h; exact aI E9
  · cases h; exact aI V8
  · cases h; exact aI F1
  · cases h; exact aI v4
  · cases h; exact aI aC8
  · cases h; exact aI W0
  · cases h; exact aI aC9
  · cases h; exact aI aCa
  · cases h; exact aI P5
  · cases h; exact aI W1
  · cases h; exact aI aGk
  · exact hk h
def aKh (k : Option CF) (f : FuncId) : Option CF := match f with | 136 => some sQ | 137 => some nH | 141 => some dB | 143 => some pO | 144 => some pF | 145 => some pG | 146 => some rH | 147 => some sR | 148 => some o0 | 149 => some kU | 150 => some nI | 156 => some D1 | 157 => some gI | 158 => some wI | 159 => some qC | 160 => some cD | 161 => some hR | 162 => some bU | 163 => some gL | 164 => some hU | 165 => some sY | 166 => some fT | 167 => some vY | 168 => some qH | 169 => some D5 | 170 => some p9 | 171 => some sZ | 172 => some tA | 174 => some cR | 181 => some dP | 182 => some zK | 183 => some rI | 184 => some zL | 185 => some q0 | 186 => some q9 | 187 => some r0 | 188 => some r5 | 189 => some nL | 192 => some eI | 193 => some fY | _ => k
theorem aKi {k : Option CF} {f : FuncId} {cf : CF} (h : aKh k f = some cf) (hk : k = some cf → aF Tryz.prog f = true ∧ cA Tryz.prog aK f cf = true) : aF Tryz.prog f = true ∧ cA Tryz.prog aK f cf = true := by
  unfold aKh at h
  split at h
  · cases h; exact aI aCb
  · cases h; exact aI uI
  · cases h; exact aI nX
  · cases h; exact aI xQ
  · cases h; exact aI wN
  · cases h; exact aI wO
  · cases h; exact aI yN
  · cases h; exact aI aCc
  · cases h; exact aI W2
  · cases h; exact aI o4
  · cases h; exact aI F2
  · cases h; exact aI aCd
  · cases h; exact aI mS
  · cases h; exact aI v5
  · cases h; exact aI W6
  · cases h; exact aI kV
  · cases h; exact aI xR
  · cases h; exact aI aCo
  · cases h; exact aI wP
  · cases h; exact aI xV
  · cases h; exact aI aCp
  · cases h; exact aI vX
  · cases h; exact aI aFg
  · cases h; exact aI X9
  · cases h; exact aI aCq
  · cases h; exact aI Y1
  · cases h; exact aI aCr
  · cases h; exact aI aCs
  · cases h; exact aI Y2
  · cases h; exact aI qI
  · cases h; exact aI R7
  · cases h; exact aI yQ
  · cases h; exact aI R8
  · cases h; exact aI Y3
  · cases h; exact aI Y4
  · cases h; exact aI Y5
  · cases h; exact aI Y6
  · cases h; exact aI F7
  · cases h; exact aI jS
  · cases h; exact aI mE
  · exact hk h
def aKj (k : Option CF) (f : FuncId) : Option CF := match f with | 194 => some eJ | 195 => some eY | 196 => some eM | 197 => some dI | 198 => some dZ | 199 => some fI | 200 => some rX | 201 => some rY | 202 => some pU | 203 => some oK | 204 => some mZ | 205 => some pV | 206 => some pW | 207 => some oL | 208 => some m5 | 209 => some rZ | 210 => some pX | 217 => some m6 | 218 => some dX | 219 => some xI | 220 => some m7 | 221 => some mI | 222 => some fX | 223 => some mJ | 224 => some nA | 225 => some dY | 226 => some hI | 227 => some fC | 228 => some nC | 229 => some sC | 230 => some pY | 231 => some M4 | 232 => some vM | 233 => some sD | 238 => some eX | 239 => some m8 | 240 => some wG | 241 => some hJ | 242 => some vO | 244 => some xJ | _ => k
theorem aKk {k : Option CF} {f : FuncId} {cf : CF} (h : aKj k f = some cf) (hk : k = some cf → aF Tryz.prog f = true ∧ cA Tryz.prog aK f cf = true) : aF Tryz.prog f = true ∧ cA Tryz.prog aK f cf = true := by
  unfold aKj at h
  split at h
  · cases h; exact aI jT
  · cases h; exact aI kZ
  · cases h; exact aI kP
  · cases h; exact aI gW
  · cases h; exact aI jM
  · cases h; exact aI lN
  · cases h; exact aI c5
  · cases h; exact aI c6
  · cases h; exact aI U2
  · cases h; exact aI M0
  · cases h; exact aI E3
  · cases h; exact aI U3
  · cases h; exact aI U4
  · cases h; exact aI M1
  · cases h; exact aI aIt
  · cases h; exact aI aBr
  · cases h; exact aI U5
  · cases h; exact aI U6
  · cases h; exact aI jF
  · cases h; exact aI E4
  · cases h; exact aI U7
  · cases h; exact aI tI
  · cases h; exact aI mC
  · cases h; exact aI tJ
  · cases h; exact aI uB
  · cases h; exact aI jG
  · cases h; exact aI nB
  · cases h; exact aI uC
  · cases h; exact aI E5
  · cases h; exact aI aBs
  · cases h; exact aI U8
  · cases h; exact aI aE9
  · cases h; exact aI aEa
  · cases h; exact aI aBu
  · cases h; exact aI kS
  · cases h; exact aI U9
  · cases h; exact aI u0
  · cases h; exact aI nD
  · cases h; exact aI aEb
  · cases h; exact aI E6
  · exact hk h
def aKl (k : Option CF) (f : FuncId) : Option CF := match f with | 245 => some sE | 246 => some sF | 266 => some nO | 268 => some pM | 274 => some pB | _ => k
theorem aKm {k : Option CF} {f : FuncId} {cf : CF} (h : aKl k f = some cf) (hk : k = some cf → aF Tryz.prog f = true ∧ cA Tryz.prog aK f cf = true) : aF Tryz.prog f = true ∧ cA Tryz.prog aK f cf = true := by
  unfold aKl at h
  split at h
  · cases h; exact aI c7
  · cases h; exact aI c8
  · cases h; exact aI vP
  · cases h; exact aI xK
  · cases h; exact aI wK
  · exact hk h
def tab : Tab := { code := fun f => aKd (aKf (aKh (aKj (aKl none f) f) f) f) f, prim := fun f => none }
theorem aFo : Tryz.prog.follows .mixedOrders = true := by kernel_rfl
theorem aKn : pureL.all (fun f => tab.pu f) = true := by kernel_rfl
theorem aT2 : TabOK Tryz.prog tab aK := by
  refine ⟨aFo, fun f cf _ h => (fun h => aKe h (fun h => aKg h (fun h => aKi h (fun h => aKk h (fun h => aKm h (fun h => by cases h)))))) h, fun f p h => ?_, fun f h => ?_⟩
  · cases h
  · exact List.all_eq_true.1 aKn f (by simpa [aK] using h)
end Go.Proofs.YtpcnjabfiahhhaaGreatDoor
