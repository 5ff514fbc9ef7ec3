/- A part of the proof of RowSpeakOffers, RowSpeakMessages: lemmas alone, without conditions. -/
import Derived.Test.YtpcnjabfiahhhaaGreatDoorK22
import Derived.Test.YtpcnjabfiahhhaaGreatDoorK20
set_option linter.all false
namespace Go.Abs
structure Part where
 nodes : Int
 faults : Int
 deriving DecidableEq, Inhabited
def Part.enc (x : Part) : List V := [.int .i64 x.nodes, .int .i64 x.faults]
abbrev Part.v (x : Part) : V := .agg [.int .i64 x.nodes, .int .i64 x.faults]
instance : Cel Part := ⟨2, Part.enc, fun _ => rfl, fun m x => aL aR (aL aR (eK)), fun _ => rfl⟩
instance (x : Part) : Expl x [.int .i64 x.nodes, .int .i64 x.faults] := ⟨rfl⟩
instance (priority := high) {a1 : Int} {a2 : Int} : Expl (⟨a1, a2⟩ : Part) [.int .i64 a1, .int .i64 a2] := ⟨rfl⟩
instance {a1 : Int} {a2 : Int} {r : List V} {xs : List Part}  [h : FoldL Part r xs] : FoldL Part (.int .i64 a1 :: .int .i64 a2 :: r) (⟨a1, a2⟩ :: xs) := ⟨by rw [bT, ← h.eq]; rfl⟩
structure Link where
 a : Int
 b : Int
 pa0 : Int
 pa1 : Int
 pb0 : Int
 pb1 : Int
 deriving DecidableEq, Inhabited
def Link.enc (x : Link) : List V := [.int .i64 x.a, .int .i64 x.b, .int .i64 x.pa0, .int .i64 x.pa1, .int .i64 x.pb0, .int .i64 x.pb1]
abbrev Link.v (x : Link) : V := .agg [.int .i64 x.a, .int .i64 x.b, .int .i64 x.pa0, .int .i64 x.pa1, .int .i64 x.pb0, .int .i64 x.pb1]
instance : Cel Link := ⟨6, Link.enc, fun _ => rfl, fun m x => aL aR (aL aR (aL aR (aL aR (aL aR (aL aR (eK)))))), fun _ => rfl⟩
instance (x : Link) : Expl x [.int .i64 x.a, .int .i64 x.b, .int .i64 x.pa0, .int .i64 x.pa1, .int .i64 x.pb0, .int .i64 x.pb1] := ⟨rfl⟩
instance (priority := high) {a1 : Int} {a2 : Int} {a3 : Int} {a4 : Int} {a5 : Int} {a6 : Int} : Expl (⟨a1, a2, a3, a4, a5, a6⟩ : Link) [.int .i64 a1, .int .i64 a2, .int .i64 a3, .int .i64 a4, .int .i64 a5, .int .i64 a6] := ⟨rfl⟩
instance {a1 : Int} {a2 : Int} {a3 : Int} {a4 : Int} {a5 : Int} {a6 : Int} {r : List V} {xs : List Link}  [h : FoldL Link r xs] : FoldL Link (.int .i64 a1 :: .int .i64 a2 :: .int .i64 a3 :: .int .i64 a4 :: .int .i64 a5 :: .int .i64 a6 :: r) (⟨a1, a2, a3, a4, a5, a6⟩ :: xs) := ⟨by rw [bT, ← h.eq]; rfl⟩
structure Port where
 node : Int
 link : Int
 gate : Int
 side : Int
 deriving DecidableEq, Inhabited
def Port.enc (x : Port) : List V := [.int .i64 x.node, .int .i64 x.link, .int .i64 x.gate, .int .i64 x.side]
abbrev Port.v (x : Port) : V := .agg [.int .i64 x.node, .int .i64 x.link, .int .i64 x.gate, .int .i64 x.side]
instance : Cel Port := ⟨4, Port.enc, fun _ => rfl, fun m x => aL aR (aL aR (aL aR (aL aR (eK)))), fun _ => rfl⟩
instance (x : Port) : Expl x [.int .i64 x.node, .int .i64 x.link, .int .i64 x.gate, .int .i64 x.side] := ⟨rfl⟩
instance (priority := high) {a1 : Int} {a2 : Int} {a3 : Int} {a4 : Int} : Expl (⟨a1, a2, a3, a4⟩ : Port) [.int .i64 a1, .int .i64 a2, .int .i64 a3, .int .i64 a4] := ⟨rfl⟩
instance {a1 : Int} {a2 : Int} {a3 : Int} {a4 : Int} {r : List V} {xs : List Port}  [h : FoldL Port r xs] : FoldL Port (.int .i64 a1 :: .int .i64 a2 :: .int .i64 a3 :: .int .i64 a4 :: r) (⟨a1, a2, a3, a4⟩ :: xs) := ⟨by rw [bT, ← h.eq]; rfl⟩
structure Slot where
 kind : Int
 node : Int
 off : Int
 deriving DecidableEq, Inhabited
def Slot.enc (x : Slot) : List V := [.int .i64 x.kind, .int .i64 x.node, .int .i64 x.off]
abbrev Slot.v (x : Slot) : V := .agg [.int .i64 x.kind, .int .i64 x.node, .int .i64 x.off]
instance : Cel Slot := ⟨3, Slot.enc, fun _ => rfl, fun m x => aL aR (aL aR (aL aR (eK))), fun _ => rfl⟩
instance (x : Slot) : Expl x [.int .i64 x.kind, .int .i64 x.node, .int .i64 x.off] := ⟨rfl⟩
instance (priority := high) {a1 : Int} {a2 : Int} {a3 : Int} : Expl (⟨a1, a2, a3⟩ : Slot) [.int .i64 a1, .int .i64 a2, .int .i64 a3] := ⟨rfl⟩
instance {a1 : Int} {a2 : Int} {a3 : Int} {r : List V} {xs : List Slot}  [h : FoldL Slot r xs] : FoldL Slot (.int .i64 a1 :: .int .i64 a2 :: .int .i64 a3 :: r) (⟨a1, a2, a3⟩ :: xs) := ⟨by rw [bT, ← h.eq]; rfl⟩
structure Say where
 slot : Int
 bytes : List (UInt8)
 tim : Int
 deriving DecidableEq, Inhabited
def Say.enc (x : Say) : List V := [.int .i64 x.slot, .sl none x.bytes.length (enL x.bytes), .int .i64 x.tim]
abbrev Say.v (x : Say) : V := .agg [.int .i64 x.slot, .sl none x.bytes.length (enL x.bytes), .int .i64 x.tim]
instance : Cel Say := ⟨3, Say.enc, fun _ => rfl, fun m x => aL aR (aL (qB (iU m _)) (aL aR (eK))), fun _ => rfl⟩
instance (x : Say) : Expl x [.int .i64 x.slot, .sl none x.bytes.length (enL x.bytes), .int .i64 x.tim] := ⟨rfl⟩
instance (priority := high) {a1 : Int} {a2 : List (UInt8)} {a3 : Int} : Expl (⟨a1, a2, a3⟩ : Say) [.int .i64 a1, .sl none a2.length (enL a2), .int .i64 a3] := ⟨rfl⟩
instance {a1 : Int} {a2 : List (UInt8)} {v2 : V} {a3 : Int} {r : List V} {xs : List Say} [h2 : SlL (UInt8) v2 a2] [h : FoldL Say r xs] : FoldL Say (.int .i64 a1 :: v2 :: .int .i64 a3 :: r) (⟨a1, a2, a3⟩ :: xs) := ⟨by rw [bT, ← h.eq, h2.eq]; rfl⟩
structure Frame where
 kind : Int
 part : Int
 node : Int
 wait : Int
 mask : Int
 link : Int
 flag : Bool
 cycle : Int
 offset : Int
 ages : List (Int)
 frm : Int
 to : Int
 seq : Int
 body : List (UInt8)
 deriving DecidableEq, Inhabited
def Frame.enc (x : Frame) : List V := [.int .i64 x.kind, .int .i64 x.part, .int .i64 x.node, .int .i64 x.wait, .int .i64 x.mask, .int .i64 x.link, .bool x.flag, .int .i64 x.cycle, .int .i64 x.offset, .sl none x.ages.length (enL x.ages), .int .i64 x.frm, .int .i64 x.to, .int .i64 x.seq, .sl none x.body.length (enL x.body)]
abbrev Frame.v (x : Frame) : V := .agg [.int .i64 x.kind, .int .i64 x.part, .int .i64 x.node, .int .i64 x.wait, .int .i64 x.mask, .int .i64 x.link, .bool x.flag, .int .i64 x.cycle, .int .i64 x.offset, .sl none x.ages.length (enL x.ages), .int .i64 x.frm, .int .i64 x.to, .int .i64 x.seq, .sl none x.body.length (enL x.body)]
instance : Cel Frame := ⟨14, Frame.enc, fun _ => rfl, fun m x => aL aR (aL aR (aL aR (aL aR (aL aR (aL aR (aL zN (aL aR (aL aR (aL (qB (iU m _)) (aL aR (aL aR (aL aR (aL (qB (iU m _)) (eK)))))))))))))), fun _ => rfl⟩
instance (x : Frame) : Expl x [.int .i64 x.kind, .int .i64 x.part, .int .i64 x.node, .int .i64 x.wait, .int .i64 x.mask, .int .i64 x.link, .bool x.flag, .int .i64 x.cycle, .int .i64 x.offset, .sl none x.ages.length (enL x.ages), .int .i64 x.frm, .int .i64 x.to, .int .i64 x.seq, .sl none x.body.length (enL x.body)] := ⟨rfl⟩
instance (priority := high) {a1 : Int} {a2 : Int} {a3 : Int} {a4 : Int} {a5 : Int} {a6 : Int} {a7 : Bool} {a8 : Int} {a9 : Int} {a10 : List (Int)} {a11 : Int} {a12 : Int} {a13 : Int} {a14 : List (UInt8)} : Expl (⟨a1, a2, a3, a4, a5, a6, a7, a8, a9, a10, a11, a12, a13, a14⟩ : Frame) [.int .i64 a1, .int .i64 a2, .int .i64 a3, .int .i64 a4, .int .i64 a5, .int .i64 a6, .bool a7, .int .i64 a8, .int .i64 a9, .sl none a10.length (enL a10), .int .i64 a11, .int .i64 a12, .int .i64 a13, .sl none a14.length (enL a14)] := ⟨rfl⟩
instance {a1 : Int} {a2 : Int} {a3 : Int} {a4 : Int} {a5 : Int} {a6 : Int} {a7 : Bool} {a8 : Int} {a9 : Int} {a10 : List (Int)} {v10 : V} {a11 : Int} {a12 : Int} {a13 : Int} {a14 : List (UInt8)} {v14 : V} {r : List V} {xs : List Frame} [h10 : SlL (Int) v10 a10] [h14 : SlL (UInt8) v14 a14] [h : FoldL Frame r xs] : FoldL Frame (.int .i64 a1 :: .int .i64 a2 :: .int .i64 a3 :: .int .i64 a4 :: .int .i64 a5 :: .int .i64 a6 :: .bool a7 :: .int .i64 a8 :: .int .i64 a9 :: v10 :: .int .i64 a11 :: .int .i64 a12 :: .int .i64 a13 :: v14 :: r) (⟨a1, a2, a3, a4, a5, a6, a7, a8, a9, a10, a11, a12, a13, a14⟩ :: xs) := ⟨by rw [bT, ← h.eq, h10.eq, h14.eq]; rfl⟩
structure Config where
 parts : List (Part)
 links : List (Link)
 cycle : Int
 lead : Int
 slot : Int
 window : Int
 drift : Int
 rate : Int
 ages : Int
 lost : Int
 listen : Int
 span : Int
 room : Int
 deriving DecidableEq, Inhabited
def Config.enc (x : Config) : List V := [.sl none x.parts.length (enL x.parts), .sl none x.links.length (enL x.links), .int .i64 x.cycle, .int .i64 x.lead, .int .i64 x.slot, .int .i64 x.window, .int .i64 x.drift, .int .i64 x.rate, .int .i64 x.ages, .int .i64 x.lost, .int .i64 x.listen, .int .i64 x.span, .int .i64 x.room]
abbrev Config.v (x : Config) : V := .agg [.sl none x.parts.length (enL x.parts), .sl none x.links.length (enL x.links), .int .i64 x.cycle, .int .i64 x.lead, .int .i64 x.slot, .int .i64 x.window, .int .i64 x.drift, .int .i64 x.rate, .int .i64 x.ages, .int .i64 x.lost, .int .i64 x.listen, .int .i64 x.span, .int .i64 x.room]
instance : Cel Config := ⟨13, Config.enc, fun _ => rfl, fun m x => aL (qB (iU m _)) (aL (qB (iU m _)) (aL aR (aL aR (aL aR (aL aR (aL aR (aL aR (aL aR (aL aR (aL aR (aL aR (aL aR (eK))))))))))))), fun _ => rfl⟩
instance (x : Config) : Expl x [.sl none x.parts.length (enL x.parts), .sl none x.links.length (enL x.links), .int .i64 x.cycle, .int .i64 x.lead, .int .i64 x.slot, .int .i64 x.window, .int .i64 x.drift, .int .i64 x.rate, .int .i64 x.ages, .int .i64 x.lost, .int .i64 x.listen, .int .i64 x.span, .int .i64 x.room] := ⟨rfl⟩
instance (priority := high) {a1 : List (Part)} {a2 : List (Link)} {a3 : Int} {a4 : Int} {a5 : Int} {a6 : Int} {a7 : Int} {a8 : Int} {a9 : Int} {a10 : Int} {a11 : Int} {a12 : Int} {a13 : Int} : Expl (⟨a1, a2, a3, a4, a5, a6, a7, a8, a9, a10, a11, a12, a13⟩ : Config) [.sl none a1.length (enL a1), .sl none a2.length (enL a2), .int .i64 a3, .int .i64 a4, .int .i64 a5, .int .i64 a6, .int .i64 a7, .int .i64 a8, .int .i64 a9, .int .i64 a10, .int .i64 a11, .int .i64 a12, .int .i64 a13] := ⟨rfl⟩
instance {a1 : List (Part)} {v1 : V} {a2 : List (Link)} {v2 : V} {a3 : Int} {a4 : Int} {a5 : Int} {a6 : Int} {a7 : Int} {a8 : Int} {a9 : Int} {a10 : Int} {a11 : Int} {a12 : Int} {a13 : Int} {r : List V} {xs : List Config} [h1 : SlL (Part) v1 a1] [h2 : SlL (Link) v2 a2] [h : FoldL Config r xs] : FoldL Config (v1 :: v2 :: .int .i64 a3 :: .int .i64 a4 :: .int .i64 a5 :: .int .i64 a6 :: .int .i64 a7 :: .int .i64 a8 :: .int .i64 a9 :: .int .i64 a10 :: .int .i64 a11 :: .int .i64 a12 :: .int .i64 a13 :: r) (⟨a1, a2, a3, a4, a5, a6, a7, a8, a9, a10, a11, a12, a13⟩ :: xs) := ⟨by rw [bT, ← h.eq, h1.eq, h2.eq]; rfl⟩
structure Heard where
 slot : Int
 frame : Frame
 tim : Int
 deriving DecidableEq, Inhabited
def Heard.enc (x : Heard) : List V := [.int .i64 x.slot, .int .i64 x.frame.kind, .int .i64 x.frame.part, .int .i64 x.frame.node, .int .i64 x.frame.wait, .int .i64 x.frame.mask, .int .i64 x.frame.link, .bool x.frame.flag, .int .i64 x.frame.cycle, .int .i64 x.frame.offset, .sl none x.frame.ages.length (enL x.frame.ages), .int .i64 x.frame.frm, .int .i64 x.frame.to, .int .i64 x.frame.seq, .sl none x.frame.body.length (enL x.frame.body), .int .i64 x.tim]
abbrev Heard.v (x : Heard) : V := .agg [.int .i64 x.slot, .int .i64 x.frame.kind, .int .i64 x.frame.part, .int .i64 x.frame.node, .int .i64 x.frame.wait, .int .i64 x.frame.mask, .int .i64 x.frame.link, .bool x.frame.flag, .int .i64 x.frame.cycle, .int .i64 x.frame.offset, .sl none x.frame.ages.length (enL x.frame.ages), .int .i64 x.frame.frm, .int .i64 x.frame.to, .int .i64 x.frame.seq, .sl none x.frame.body.length (enL x.frame.body), .int .i64 x.tim]
instance : Cel Heard := ⟨16, Heard.enc, fun _ => rfl, fun m x => aL aR (aL aR (aL aR (aL aR (aL aR (aL aR (aL aR (aL zN (aL aR (aL aR (aL (qB (iU m _)) (aL aR (aL aR (aL aR (aL (qB (iU m _)) (aL aR (eK)))))))))))))))), fun _ => rfl⟩
instance (x : Heard) : Expl x [.int .i64 x.slot, .int .i64 x.frame.kind, .int .i64 x.frame.part, .int .i64 x.frame.node, .int .i64 x.frame.wait, .int .i64 x.frame.mask, .int .i64 x.frame.link, .bool x.frame.flag, .int .i64 x.frame.cycle, .int .i64 x.frame.offset, .sl none x.frame.ages.length (enL x.frame.ages), .int .i64 x.frame.frm, .int .i64 x.frame.to, .int .i64 x.frame.seq, .sl none x.frame.body.length (enL x.frame.body), .int .i64 x.tim] := ⟨rfl⟩
instance (priority := high) {a1 : Int} {a2 : Int} {a3 : Int} {a4 : Int} {a5 : Int} {a6 : Int} {a7 : Int} {a8 : Bool} {a9 : Int} {a10 : Int} {a11 : List (Int)} {a12 : Int} {a13 : Int} {a14 : Int} {a15 : List (UInt8)} {a16 : Int} : Expl (⟨a1, ⟨a2, a3, a4, a5, a6, a7, a8, a9, a10, a11, a12, a13, a14, a15⟩, a16⟩ : Heard) [.int .i64 a1, .int .i64 a2, .int .i64 a3, .int .i64 a4, .int .i64 a5, .int .i64 a6, .int .i64 a7, .bool a8, .int .i64 a9, .int .i64 a10, .sl none a11.length (enL a11), .int .i64 a12, .int .i64 a13, .int .i64 a14, .sl none a15.length (enL a15), .int .i64 a16] := ⟨rfl⟩
instance {a1 : Int} {a2 : Int} {a3 : Int} {a4 : Int} {a5 : Int} {a6 : Int} {a7 : Int} {a8 : Bool} {a9 : Int} {a10 : Int} {a11 : List (Int)} {v11 : V} {a12 : Int} {a13 : Int} {a14 : Int} {a15 : List (UInt8)} {v15 : V} {a16 : Int} {r : List V} {xs : List Heard} [h11 : SlL (Int) v11 a11] [h15 : SlL (UInt8) v15 a15] [h : FoldL Heard r xs] : FoldL Heard (.int .i64 a1 :: .int .i64 a2 :: .int .i64 a3 :: .int .i64 a4 :: .int .i64 a5 :: .int .i64 a6 :: .int .i64 a7 :: .bool a8 :: .int .i64 a9 :: .int .i64 a10 :: v11 :: .int .i64 a12 :: .int .i64 a13 :: .int .i64 a14 :: v15 :: .int .i64 a16 :: r) (⟨a1, ⟨a2, a3, a4, a5, a6, a7, a8, a9, a10, a11, a12, a13, a14, a15⟩, a16⟩ :: xs) := ⟨by rw [bT, ← h.eq, h11.eq, h15.eq]; rfl⟩
structure Node where
 state : Int
 wait : Int
 drift : Int
 start : Int
 cycle : Int
 ages : List (Int)
 mask : Int
 bad : Int
 deriving DecidableEq, Inhabited
def Node.enc (x : Node) : List V := [.int .i64 x.state, .int .i64 x.wait, .int .i64 x.drift, .int .i64 x.start, .int .i64 x.cycle, .sl none x.ages.length (enL x.ages), .int .i64 x.mask, .int .i64 x.bad]
abbrev Node.v (x : Node) : V := .agg [.int .i64 x.state, .int .i64 x.wait, .int .i64 x.drift, .int .i64 x.start, .int .i64 x.cycle, .sl none x.ages.length (enL x.ages), .int .i64 x.mask, .int .i64 x.bad]
instance : Cel Node := ⟨8, Node.enc, fun _ => rfl, fun m x => aL aR (aL aR (aL aR (aL aR (aL aR (aL (qB (iU m _)) (aL aR (aL aR (eK)))))))), fun _ => rfl⟩
instance (x : Node) : Expl x [.int .i64 x.state, .int .i64 x.wait, .int .i64 x.drift, .int .i64 x.start, .int .i64 x.cycle, .sl none x.ages.length (enL x.ages), .int .i64 x.mask, .int .i64 x.bad] := ⟨rfl⟩
instance (priority := high) {a1 : Int} {a2 : Int} {a3 : Int} {a4 : Int} {a5 : Int} {a6 : List (Int)} {a7 : Int} {a8 : Int} : Expl (⟨a1, a2, a3, a4, a5, a6, a7, a8⟩ : Node) [.int .i64 a1, .int .i64 a2, .int .i64 a3, .int .i64 a4, .int .i64 a5, .sl none a6.length (enL a6), .int .i64 a7, .int .i64 a8] := ⟨rfl⟩
instance {a1 : Int} {a2 : Int} {a3 : Int} {a4 : Int} {a5 : Int} {a6 : List (Int)} {v6 : V} {a7 : Int} {a8 : Int} {r : List V} {xs : List Node} [h6 : SlL (Int) v6 a6] [h : FoldL Node r xs] : FoldL Node (.int .i64 a1 :: .int .i64 a2 :: .int .i64 a3 :: .int .i64 a4 :: .int .i64 a5 :: v6 :: .int .i64 a7 :: .int .i64 a8 :: r) (⟨a1, a2, a3, a4, a5, a6, a7, a8⟩ :: xs) := ⟨by rw [bT, ← h.eq, h6.eq]; rfl⟩
structure Far where
 on : Bool
 start : Int
 cycle : Int
 ages : List (Int)
 deriving DecidableEq, Inhabited
def Far.enc (x : Far) : List V := [.bool x.on, .int .i64 x.start, .int .i64 x.cycle, .sl none x.ages.length (enL x.ages)]
abbrev Far.v (x : Far) : V := .agg [.bool x.on, .int .i64 x.start, .int .i64 x.cycle, .sl none x.ages.length (enL x.ages)]
instance : Cel Far := ⟨4, Far.enc, fun _ => rfl, fun m x => aL zN (aL aR (aL aR (aL (qB (iU m _)) (eK)))), fun _ => rfl⟩
instance (x : Far) : Expl x [.bool x.on, .int .i64 x.start, .int .i64 x.cycle, .sl none x.ages.length (enL x.ages)] := ⟨rfl⟩
instance (priority := high) {a1 : Bool} {a2 : Int} {a3 : Int} {a4 : List (Int)} : Expl (⟨a1, a2, a3, a4⟩ : Far) [.bool a1, .int .i64 a2, .int .i64 a3, .sl none a4.length (enL a4)] := ⟨rfl⟩
instance {a1 : Bool} {a2 : Int} {a3 : Int} {a4 : List (Int)} {v4 : V} {r : List V} {xs : List Far} [h4 : SlL (Int) v4 a4] [h : FoldL Far r xs] : FoldL Far (.bool a1 :: .int .i64 a2 :: .int .i64 a3 :: v4 :: r) (⟨a1, a2, a3, a4⟩ :: xs) := ⟨by rw [bT, ← h.eq, h4.eq]; rfl⟩
structure Offer where
 node : Int
 link : Int
 slot : Int
 flag : Bool
 cycle : Int
 offset : Int
 tim : Int
 ages : List (Int)
 deriving DecidableEq, Inhabited
def Offer.enc (x : Offer) : List V := [.int .i64 x.node, .int .i64 x.link, .int .i64 x.slot, .bool x.flag, .int .i64 x.cycle, .int .i64 x.offset, .int .i64 x.tim, .sl none x.ages.length (enL x.ages)]
abbrev Offer.v (x : Offer) : V := .agg [.int .i64 x.node, .int .i64 x.link, .int .i64 x.slot, .bool x.flag, .int .i64 x.cycle, .int .i64 x.offset, .int .i64 x.tim, .sl none x.ages.length (enL x.ages)]
instance : Cel Offer := ⟨8, Offer.enc, fun _ => rfl, fun m x => aL aR (aL aR (aL aR (aL zN (aL aR (aL aR (aL aR (aL (qB (iU m _)) (eK)))))))), fun _ => rfl⟩
instance (x : Offer) : Expl x [.int .i64 x.node, .int .i64 x.link, .int .i64 x.slot, .bool x.flag, .int .i64 x.cycle, .int .i64 x.offset, .int .i64 x.tim, .sl none x.ages.length (enL x.ages)] := ⟨rfl⟩
instance (priority := high) {a1 : Int} {a2 : Int} {a3 : Int} {a4 : Bool} {a5 : Int} {a6 : Int} {a7 : Int} {a8 : List (Int)} : Expl (⟨a1, a2, a3, a4, a5, a6, a7, a8⟩ : Offer) [.int .i64 a1, .int .i64 a2, .int .i64 a3, .bool a4, .int .i64 a5, .int .i64 a6, .int .i64 a7, .sl none a8.length (enL a8)] := ⟨rfl⟩
instance {a1 : Int} {a2 : Int} {a3 : Int} {a4 : Bool} {a5 : Int} {a6 : Int} {a7 : Int} {a8 : List (Int)} {v8 : V} {r : List V} {xs : List Offer} [h8 : SlL (Int) v8 a8] [h : FoldL Offer r xs] : FoldL Offer (.int .i64 a1 :: .int .i64 a2 :: .int .i64 a3 :: .bool a4 :: .int .i64 a5 :: .int .i64 a6 :: .int .i64 a7 :: v8 :: r) (⟨a1, a2, a3, a4, a5, a6, a7, a8⟩ :: xs) := ⟨by rw [bT, ← h.eq, h8.eq]; rfl⟩
structure View where
 c : Config
 part : Int
 slots : List (Slot)
 ports : List (Port)
 edge : Int
 near : Int
 slew : Int
 step : Int
 jump : Int
 tick : Int
 gone : Int
 deriving DecidableEq, Inhabited
def View.enc (x : View) : List V := [.sl none x.c.parts.length (enL x.c.parts), .sl none x.c.links.length (enL x.c.links), .int .i64 x.c.cycle, .int .i64 x.c.lead, .int .i64 x.c.slot, .int .i64 x.c.window, .int .i64 x.c.drift, .int .i64 x.c.rate, .int .i64 x.c.ages, .int .i64 x.c.lost, .int .i64 x.c.listen, .int .i64 x.c.span, .int .i64 x.c.room, .int .i64 x.part, .sl none x.slots.length (enL x.slots), .sl none x.ports.length (enL x.ports), .int .i64 x.edge, .int .i64 x.near, .int .i64 x.slew, .int .i64 x.step, .int .i64 x.jump, .int .i64 x.tick, .int .i64 x.gone]
abbrev View.v (x : View) : V := .agg [.sl none x.c.parts.length (enL x.c.parts), .sl none x.c.links.length (enL x.c.links), .int .i64 x.c.cycle, .int .i64 x.c.lead, .int .i64 x.c.slot, .int .i64 x.c.window, .int .i64 x.c.drift, .int .i64 x.c.rate, .int .i64 x.c.ages, .int .i64 x.c.lost, .int .i64 x.c.listen, .int .i64 x.c.span, .int .i64 x.c.room, .int .i64 x.part, .sl none x.slots.length (enL x.slots), .sl none x.ports.length (enL x.ports), .int .i64 x.edge, .int .i64 x.near, .int .i64 x.slew, .int .i64 x.step, .int .i64 x.jump, .int .i64 x.tick, .int .i64 x.gone]
instance : Cel View := ⟨23, View.enc, fun _ => rfl, fun m x => aL (qB (iU m _)) (aL (qB (iU m _)) (aL aR (aL aR (aL aR (aL aR (aL aR (aL aR (aL aR (aL aR (aL aR (aL aR (aL aR (aL aR (aL (qB (iU m _)) (aL (qB (iU m _)) (aL aR (aL aR (aL aR (aL aR (aL aR (aL aR (aL aR (eK))))))))))))))))))))))), fun _ => rfl⟩
instance (x : View) : Expl x [.sl none x.c.parts.length (enL x.c.parts), .sl none x.c.links.length (enL x.c.links), .int .i64 x.c.cycle, .int .i64 x.c.lead, .int .i64 x.c.slot, .int .i64 x.c.window, .int .i64 x.c.drift, .int .i64 x.c.rate, .int .i64 x.c.ages, .int .i64 x.c.lost, .int .i64 x.c.listen, .int .i64 x.c.span, .int .i64 x.c.room, .int .i64 x.part, .sl none x.slots.length (enL x.slots), .sl none x.ports.length (enL x.ports), .int .i64 x.edge, .int .i64 x.near, .int .i64 x.slew, .int .i64 x.step, .int .i64 x.jump, .int .i64 x.tick, .int .i64 x.gone] := ⟨rfl⟩
instance (priority := high) {a1 : List (Part)} {a2 : List (Link)} {a3 : Int} {a4 : Int} {a5 : Int} {a6 : Int} {a7 : Int} {a8 : Int} {a9 : Int} {a10 : Int} {a11 : Int} {a12 : Int} {a13 : Int} {a14 : Int} {a15 : List (Slot)} {a16 : List (Port)} {a17 : Int} {a18 : Int} {a19 : Int} {a20 : Int} {a21 : Int} {a22 : Int} {a23 : Int} : Expl (⟨⟨a1, a2, a3, a4, a5, a6, a7, a8, a9, a10, a11, a12, a13⟩, a14, a15, a16, a17, a18, a19, a20, a21, a22, a23⟩ : View) [.sl none a1.length (enL a1), .sl none a2.length (enL a2), .int .i64 a3, .int .i64 a4, .int .i64 a5, .int .i64 a6, .int .i64 a7, .int .i64 a8, .int .i64 a9, .int .i64 a10, .int .i64 a11, .int .i64 a12, .int .i64 a13, .int .i64 a14, .sl none a15.length (enL a15), .sl none a16.length (enL a16), .int .i64 a17, .int .i64 a18, .int .i64 a19, .int .i64 a20, .int .i64 a21, .int .i64 a22, .int .i64 a23] := ⟨rfl⟩
instance {a1 : List (Part)} {v1 : V} {a2 : List (Link)} {v2 : V} {a3 : Int} {a4 : Int} {a5 : Int} {a6 : Int} {a7 : Int} {a8 : Int} {a9 : Int} {a10 : Int} {a11 : Int} {a12 : Int} {a13 : Int} {a14 : Int} {a15 : List (Slot)} {v15 : V} {a16 : List (Port)} {v16 : V} {a17 : Int} {a18 : Int} {a19 : Int} {a20 : Int} {a21 : Int} {a22 : Int} {a23 : Int} {r : List V} {xs : List View} [h1 : SlL (Part) v1 a1] [h2 : SlL (Link) v2 a2] [h15 : SlL (Slot) v15 a15] [h16 : SlL (Port) v16 a16] [h : FoldL View r xs] : FoldL View (v1 :: v2 :: .int .i64 a3 :: .int .i64 a4 :: .int .i64 a5 :: .int .i64 a6 :: .int .i64 a7 :: .int .i64 a8 :: .int .i64 a9 :: .int .i64 a10 :: .int .i64 a11 :: .int .i64 a12 :: .int .i64 a13 :: .int .i64 a14 :: v15 :: v16 :: .int .i64 a17 :: .int .i64 a18 :: .int .i64 a19 :: .int .i64 a20 :: .int .i64 a21 :: .int .i64 a22 :: .int .i64 a23 :: r) (⟨⟨a1, a2, a3, a4, a5, a6, a7, a8, a9, a10, a11, a12, a13⟩, a14, a15, a16, a17, a18, a19, a20, a21, a22, a23⟩ :: xs) := ⟨by rw [bT, ← h.eq, h1.eq, h2.eq, h15.eq, h16.eq]; rfl⟩
end Go.Abs
namespace Go.Abs
class MaskI (m : Int) (p : outParam Int) : Prop where eq : ∀ a : Int, IntKind.i64.wrap (BitVec.ofInt 64 a &&& BitVec.ofInt 64 m).toNat = a % p
theorem rG {m p : Int} (j : Nat) (hj : j ≤ 62) (hm : (((2 ^ j - 1 : Nat)) : Int) = m) (hp : ((2 ^ j : Nat) : Int) = p) : MaskI m p := ⟨fun a => by rw [← hm, ← hp]; exact aLs a hj⟩
instance : MaskI 1 2 := rG 1 (by decide) rfl rfl
instance : MaskI 3 4 := rG 2 (by decide) rfl rfl
instance : MaskI 7 8 := rG 3 (by decide) rfl rfl
instance : MaskI 15 16 := rG 4 (by decide) rfl rfl
instance : MaskI 4095 4096 := rG 12 (by decide) rfl rfl
instance : MaskI 65535 65536 := rG 16 (by decide) rfl rfl
instance : MaskI 1073741823 1073741824 := rG 30 (by decide) rfl rfl
instance : MaskI 274877906943 274877906944 := rG 38 (by decide) rfl rfl
instance : MaskI 549755813887 549755813888 := rG 39 (by decide) rfl rfl
section
variable {s : Option Nat} {H : aC}
theorem aRz {a m p : Int} (hm : MaskI m p := by exact inferInstance) : apply s (.bin .and) [.int .i64 a, .int .i64 m] H = some (.int .i64 (a % p), H) := by
 rw [aMq]
 show some (V.int .i64 (IntKind.i64.wrap (BitVec.ofInt 64 a &&& BitVec.ofInt 64 m).toNat), H) = _
 rw [hm.eq]
theorem aTt {k : IntKind} {n : Int} : apply s (.un .xor) [.int k n] H = some (.int k (k.wrap (BitVec.ofInt k.bits (if k.signed then -1 else k.max) ^^^ BitVec.ofInt k.bits n).toNat), H) := rfl
end
theorem aWh {e : aZ} : iX [] e = true := rfl
theorem aS0 {t : Nat} {r : List Nat} {e : aZ} {v : V} (hg : g e t = some v) (hv : v.rb 0 = true) (h : iX r e = true) : iX (t :: r) e = true := by
 rw [s4] at hg
 simp only [iX, hg, hv, h, Bool.and_self]
theorem aWi {β : Type} {T : Tab} {s : Option Nat} {H : aC} {keep : List Nat} {t : Nat} {free : List Nat} {κ : oK → Option β} {e e1 : aZ} {Y : Option β → Prop} (k : Ev (κ (.nrm, e1, H)) Y) (h : iX (t :: free) e = true := by (repeat (first | exact aWh | (apply aS0; exact rfl; (focus (exact tRB))))); (first | done | fail)) (h1 : bZ keep e = e1 := by exact aTv) : Ev (RR T s [] e H (fK keep [] (t :: free) [] κ)) Y :=
 aJo (by rw [h]; rfl) h1 k
theorem oV {β : Type} {T : Tab} {s : Option Nat} {c : C} {e : aZ} {H : aC} {o : oK} {κ : oK → Option β} {Y : Option β → Prop} (n : Nat) (h : zU (z0 T n) s n c e H = some o) (k : Ev (κ o) Y) : Ev (R T s c e H κ) Y := by
 unfold R
 rw [fJ.2 ⟨n, h⟩]; exact k
theorem sh1 {k : IntKind} (h : 1 ≤ k.bits := by decide) : (2 : Int) ^ (min (Int.toNat 1) k.bits) = 2 := by rw [show (Int.toNat 1) = 1 from rfl, Nat.min_eq_left h]; rfl
theorem sh2 {k : IntKind} (h : 2 ≤ k.bits := by decide) : (2 : Int) ^ (min (Int.toNat 2) k.bits) = 4 := by rw [show (Int.toNat 2) = 2 from rfl, Nat.min_eq_left h]; rfl
theorem sh4 {k : IntKind} (h : 4 ≤ k.bits := by decide) : (2 : Int) ^ (min (Int.toNat 4) k.bits) = 16 := by rw [show (Int.toNat 4) = 4 from rfl, Nat.min_eq_left h]; rfl
theorem sh7 {k : IntKind} (h : 7 ≤ k.bits := by decide) : (2 : Int) ^ (min (Int.toNat 7) k.bits) = 128 := by rw [show (Int.toNat 7) = 7 from rfl, Nat.min_eq_left h]; rfl
theorem sh8 {k : IntKind} (h : 8 ≤ k.bits := by decide) : (2 : Int) ^ (min (Int.toNat 8) k.bits) = 256 := by rw [show (Int.toNat 8) = 8 from rfl, Nat.min_eq_left h]; rfl
theorem bA2 {k : IntKind} (h : 10 ≤ k.bits := by decide) : (2 : Int) ^ (min (Int.toNat 10) k.bits) = 1024 := by rw [show (Int.toNat 10) = 10 from rfl, Nat.min_eq_left h]; rfl
theorem bA3 {k : IntKind} (h : 11 ≤ k.bits := by decide) : (2 : Int) ^ (min (Int.toNat 11) k.bits) = 2048 := by rw [show (Int.toNat 11) = 11 from rfl, Nat.min_eq_left h]; rfl
theorem bA4 {k : IntKind} (h : 13 ≤ k.bits := by decide) : (2 : Int) ^ (min (Int.toNat 13) k.bits) = 8192 := by rw [show (Int.toNat 13) = 13 from rfl, Nat.min_eq_left h]; rfl
theorem bA5 {k : IntKind} (h : 16 ≤ k.bits := by decide) : (2 : Int) ^ (min (Int.toNat 16) k.bits) = 65536 := by rw [show (Int.toNat 16) = 16 from rfl, Nat.min_eq_left h]; rfl
theorem bA6 {k : IntKind} (h : 24 ≤ k.bits := by decide) : (2 : Int) ^ (min (Int.toNat 24) k.bits) = 16777216 := by rw [show (Int.toNat 24) = 24 from rfl, Nat.min_eq_left h]; rfl
theorem bA7 {k : IntKind} (h : 31 ≤ k.bits := by decide) : (2 : Int) ^ (min (Int.toNat 31) k.bits) = 2147483648 := by rw [show (Int.toNat 31) = 31 from rfl, Nat.min_eq_left h]; rfl
end Go.Abs
namespace Go.Abs
theorem aS {p q : Prop} (k : q) (h : q → p := by intro k; first | (show zz; first | (show zo; exact d8 k) | (show zf; first | exact bCw k | exact bB0 k) | (show zm; exact qP k) | (show zr; first | exact aWi k | exact jP k) | (show zO; exact bB2 k) | (show ze; exact bB4 k) | (show zt; first | exact bCx k | exact bB0 k) | (show zp; exact bCy k) | (show zF; first | exact y_hF k | exact y_sk0 k) | (show zT; first | exact y_hT k | exact y_sk0 k)) | (show gA; first | (show gX; exact aWv k) | (show gD; first | exact bAw k | exact bAx k) | (show gE; first | exact gc_tE k | exact gc_fE k) | (show gN; first | exact gc_tN k | exact gc_fN k)) | (show zR; first | (show zs; exact bBc k) | (show zg; exact bBr rfl k) | (show zd; exact bB1 k) | exact bBe k | exact bBd k | exact bBf k | exact aWy k) | exact cF k | exact aKv k | exact aI0 k | exact aKw k | exact aKx k | exact aKy k | exact aI1 (by decide) k | exact aPg k | exact aKz k | (show zk; exact bB5 k) | (show zj; exact j7 k)) : p := h k
theorem aT {p q : Prop} (k : q) (h : q → p := by intro k; first | exact bAy k | exact bAz k | exact gc_tS k | exact gc_fS k) : p := h k
theorem yc {T : Tab} {s : Option Nat} {f : FuncId} {vs : List V} {H H1 : aC} {v : V} {p q : Prop} (k : q) (h : Call T s f vs H = some (v, H1) → q → p := by intro h k; first | (show zc; exact dE k (ha := h)) | (show zC; exact y_call0 k (ha := h))) (ha : Call T s f vs H = some (v, H1) := by assumption) : p := h ha k
theorem bX {T : Tab} {s : Option Nat} {H : aC} {f : FuncId} {args : List V} {cf : CF} {Y : Option (V × aC) → Prop} (hp : T.prim f = none) (hc : T.code f = some cf) (ha : args.length = cf.np) (hm : cf.mode = .P)
 (h : Ev (R T (some 0) cf.body (aB 0 args) [] (pU .P cf.res s H [])) Y) (hb : V.rbL 0 args = true := by exact tRB) : Ev (Call T s f args H) Y := bD0 (H0 := []) hp hc ha hm hb h
end Go.Abs
namespace Go.Abs
open Go.Proofs.YtpcnjabfiahhhaaGreatDoor
attribute [local irreducible] enL R RR fP fB pX fK fQ pU apply fT gQ bW bZ eJ bR iL bG bD eC cR kD dO V.rb V.rbL
abbrev Tm (x : Int) : Prop := -1099511627776 ≤ x ∧ x ≤ 1099511627776
theorem dH {s : Option Nat} {H : aC} {x : Int} : Call tab s lJ [.int .i64 x] H = some (.bool (decide (Tm x)), H) := by
 ((first | refine aJ ?_ | skip); refine bX (cf := qY) rfl rfl rfl rfl ?_; unfold qY; dsimp only [aB, Nat.reduceAdd, Nat.zero_add])
 repeat' (first | refine aS ?_ | refine yc ?_ | (show zn; refine aA ?_) | (show gA; first | refine aH (fun _ => ?_) fun _ => ?_ | refine gc_E (fun _ => ?_) fun _ => ?_ | refine gc_N (fun _ => ?_) fun _ => ?_ | refine aT ?_ | refine gc_B (fun _ => ?_) fun _ => ?_) | fail)
 all_goals first | (with_reducible rfl) | (simp only [Option.some.injEq, Prod.mk.injEq, V.bool.injEq, V.tup.injEq, V.int.injEq, List.cons.injEq, and_true, true_and]; first | done | (rw [Bool.eq_iff_iff]; simp only [decide_eq_true_eq, Bool.false_eq_true, Bool.true_eq_false, false_iff, iff_false, true_iff, iff_true, Bool.not_eq_true, decide_eq_false_iff_not, Bool.and_eq_true, Bool.or_eq_true]; omega) | omega)
theorem bH {s : Option Nat} {H : aC} {x : Int} : Call tab s jE [.int .i64 x] H = some (.bool (decide (Tm x)), H) := by
 ((first | refine aJ ?_ | skip); refine bX (cf := uA) rfl rfl rfl rfl ?_; unfold uA; dsimp only [aB, Nat.reduceAdd, Nat.zero_add])
 repeat' (first | refine aS ?_ | refine yc ?_ | (show zn; refine aA ?_) | (show gA; first | refine aH (fun _ => ?_) fun _ => ?_ | refine gc_E (fun _ => ?_) fun _ => ?_ | refine gc_N (fun _ => ?_) fun _ => ?_ | refine aT ?_ | refine gc_B (fun _ => ?_) fun _ => ?_) | fail)
 all_goals first | (with_reducible rfl) | (simp only [Option.some.injEq, Prod.mk.injEq, V.bool.injEq, V.tup.injEq, V.int.injEq, List.cons.injEq, and_true, true_and]; first | done | (rw [Bool.eq_iff_iff]; simp only [decide_eq_true_eq, Bool.false_eq_true, Bool.true_eq_false, false_iff, iff_false, true_iff, iff_true, Bool.not_eq_true, decide_eq_false_iff_not, Bool.and_eq_true, Bool.or_eq_true]; omega) | omega)
def flo (a b : Int) : Int := if 1 ≤ b then a / b else 0
theorem aCd {s : Option Nat} {H : aC} {a b : Int} (ha : I64 a) : Call tab s g6 [.int .i64 a, .int .i64 b] H = some (.tup [.int .i64 (flo a b), .bool (decide (1 ≤ b))], H) := by
 unfold I64 at ha
 unfold flo
 ((first | refine aJ ?_ | skip); refine bX (cf := pK) rfl rfl rfl rfl ?_; unfold pK; dsimp only [aB, Nat.reduceAdd, Nat.zero_add])
 by_cases hb : 1 ≤ b
 ·rw [if_pos hb, decide_eq_true hb]
  have e1 := @aCj a b hb
  have e2 := @aCi a b hb
  have e3 := zL (a := a) hb
  have hw : IntKind.i64.wrap (a.tdiv b) = a.tdiv b := IntWalk.i64_in _ (by have := L6 (a := a) hb; omega)
  have hx : a.tmod b < 0 → IntKind.i64.wrap (a.tdiv b - 1) = a / b := fun k => by rw [e1 k]; exact IntWalk.i64_in _ (by omega)
  by_cases k : a.tmod b < 0
  ·have hx := hx k
   repeat' (first | refine aS ?_ | refine yc ?_ | (show zn; refine aA ?_) | (show gA; first | refine aH (fun _ => ?_) fun _ => ?_ | refine gc_E (fun _ => ?_) fun _ => ?_ | refine gc_N (fun _ => ?_) fun _ => ?_ | refine aT ?_ | refine gc_B (fun _ => ?_) fun _ => ?_) | fail)
   rfl
  ·have e2 := e2 k
   repeat' (first | refine aS ?_ | refine yc ?_ | (show zn; refine aA ?_) | (show gA; first | refine aH (fun _ => ?_) fun _ => ?_ | refine gc_E (fun _ => ?_) fun _ => ?_ | refine gc_N (fun _ => ?_) fun _ => ?_ | refine aT ?_ | refine gc_B (fun _ => ?_) fun _ => ?_) | fail)
   rw [e2]
 ·rw [if_neg hb, decide_eq_false hb]
  repeat' (first | refine aS ?_ | refine yc ?_ | (show zn; refine aA ?_) | (show gA; first | refine aH (fun _ => ?_) fun _ => ?_ | refine gc_E (fun _ => ?_) fun _ => ?_ | refine gc_N (fun _ => ?_) fun _ => ?_ | refine aT ?_ | refine gc_B (fun _ => ?_) fun _ => ?_) | fail)
  rfl
theorem aEh {s : Option Nat} {H : aC} {a b : Int} (ha : I64 a) : Call tab s p9 [.int .i64 a, .int .i64 b] H = some (.tup [.int .i64 (flo a b), .bool (decide (1 ≤ b))], H) := by
 unfold I64 at ha
 unfold flo
 ((first | refine aJ ?_ | skip); refine bX (cf := rD) rfl rfl rfl rfl ?_; unfold rD; dsimp only [aB, Nat.reduceAdd, Nat.zero_add])
 by_cases hb : 1 ≤ b
 ·rw [if_pos hb, decide_eq_true hb]
  have e1 := @aCj a b hb
  have e2 := @aCi a b hb
  have e3 := zL (a := a) hb
  have hw : IntKind.i64.wrap (a.tdiv b) = a.tdiv b := IntWalk.i64_in _ (by have := L6 (a := a) hb; omega)
  have hx : a.tmod b < 0 → IntKind.i64.wrap (a.tdiv b - 1) = a / b := fun k => by rw [e1 k]; exact IntWalk.i64_in _ (by omega)
  by_cases k : a.tmod b < 0
  ·have hx := hx k
   repeat' (first | refine aS ?_ | refine yc ?_ | (show zn; refine aA ?_) | (show gA; first | refine aH (fun _ => ?_) fun _ => ?_ | refine gc_E (fun _ => ?_) fun _ => ?_ | refine gc_N (fun _ => ?_) fun _ => ?_ | refine aT ?_ | refine gc_B (fun _ => ?_) fun _ => ?_) | fail)
   rfl
  ·have e2 := e2 k
   repeat' (first | refine aS ?_ | refine yc ?_ | (show zn; refine aA ?_) | (show gA; first | refine aH (fun _ => ?_) fun _ => ?_ | refine gc_E (fun _ => ?_) fun _ => ?_ | refine gc_N (fun _ => ?_) fun _ => ?_ | refine aT ?_ | refine gc_B (fun _ => ?_) fun _ => ?_) | fail)
   rw [e2]
 ·rw [if_neg hb, decide_eq_false hb]
  repeat' (first | refine aS ?_ | refine yc ?_ | (show zn; refine aA ?_) | (show gA; first | refine aH (fun _ => ?_) fun _ => ?_ | refine gc_E (fun _ => ?_) fun _ => ?_ | refine gc_N (fun _ => ?_) fun _ => ?_ | refine aT ?_ | refine gc_B (fun _ => ?_) fun _ => ?_) | fail)
  rfl
def uT (a b : Int) : Int := if 1 ≤ b then -((-a) / b) else 0
theorem aLg {s : Option Nat} {H : aC} {a b : Int} (ha : -9223372036854775807 ≤ a ∧ a ≤ 9223372036854775807) : Call tab s o9 [.int .i64 a, .int .i64 b] H = some (.tup [.int .i64 (uT a b), .bool (decide (1 ≤ b))], H) := by
 unfold uT
 ((first | refine aJ ?_ | skip); refine bX (cf := rC) rfl rfl rfl rfl ?_; unfold rC; dsimp only [aB, Nat.reduceAdd, Nat.zero_add])
 by_cases hb : 1 ≤ b
 ·rw [if_pos hb, decide_eq_true hb]
  have e1 := @aIm a b hb
  have e2 := @aEn a b hb
  have e3 := zL (a := -a) hb
  have hw : IntKind.i64.wrap (a.tdiv b) = a.tdiv b := IntWalk.i64_in _ (by have := L6 (a := a) hb; omega)
  have hx : 0 < a.tmod b → IntKind.i64.wrap (a.tdiv b + 1) = -((-a) / b) := fun k => by rw [e1 k]; exact IntWalk.i64_in _ (by omega)
  by_cases k : 0 < a.tmod b
  ·have hx := hx k
   repeat' (first | refine aS ?_ | refine yc ?_ | (show zn; refine aA ?_) | (show gA; first | refine aH (fun _ => ?_) fun _ => ?_ | refine gc_E (fun _ => ?_) fun _ => ?_ | refine gc_N (fun _ => ?_) fun _ => ?_ | refine aT ?_ | refine gc_B (fun _ => ?_) fun _ => ?_) | fail)
   rfl
  ·have e2 := e2 k
   repeat' (first | refine aS ?_ | refine yc ?_ | (show zn; refine aA ?_) | (show gA; first | refine aH (fun _ => ?_) fun _ => ?_ | refine gc_E (fun _ => ?_) fun _ => ?_ | refine gc_N (fun _ => ?_) fun _ => ?_ | refine aT ?_ | refine gc_B (fun _ => ?_) fun _ => ?_) | fail)
   rw [e2]
 ·rw [if_neg hb, decide_eq_false hb]
  repeat' (first | refine aS ?_ | refine yc ?_ | (show zn; refine aA ?_) | (show gA; first | refine aH (fun _ => ?_) fun _ => ?_ | refine gc_E (fun _ => ?_) fun _ => ?_ | refine gc_N (fun _ => ?_) fun _ => ?_ | refine aT ?_ | refine gc_B (fun _ => ?_) fun _ => ?_) | fail)
  rfl
theorem aId {s : Option Nat} {H : aC} {a b : Int} (ha : -9223372036854775807 ≤ a ∧ a ≤ 9223372036854775807) : Call tab s F8 [.int .i64 a, .int .i64 b] H = some (.tup [.int .i64 (uT a b), .bool (decide (1 ≤ b))], H) := by
 unfold uT
 ((first | refine aJ ?_ | skip); refine bX (cf := tP) rfl rfl rfl rfl ?_; unfold tP; dsimp only [aB, Nat.reduceAdd, Nat.zero_add])
 by_cases hb : 1 ≤ b
 ·rw [if_pos hb, decide_eq_true hb]
  have e1 := @aIm a b hb
  have e2 := @aEn a b hb
  have e3 := zL (a := -a) hb
  have hw : IntKind.i64.wrap (a.tdiv b) = a.tdiv b := IntWalk.i64_in _ (by have := L6 (a := a) hb; omega)
  have hx : 0 < a.tmod b → IntKind.i64.wrap (a.tdiv b + 1) = -((-a) / b) := fun k => by rw [e1 k]; exact IntWalk.i64_in _ (by omega)
  by_cases k : 0 < a.tmod b
  ·have hx := hx k
   repeat' (first | refine aS ?_ | refine yc ?_ | (show zn; refine aA ?_) | (show gA; first | refine aH (fun _ => ?_) fun _ => ?_ | refine gc_E (fun _ => ?_) fun _ => ?_ | refine gc_N (fun _ => ?_) fun _ => ?_ | refine aT ?_ | refine gc_B (fun _ => ?_) fun _ => ?_) | fail)
   rfl
  ·have e2 := e2 k
   repeat' (first | refine aS ?_ | refine yc ?_ | (show zn; refine aA ?_) | (show gA; first | refine aH (fun _ => ?_) fun _ => ?_ | refine gc_E (fun _ => ?_) fun _ => ?_ | refine gc_N (fun _ => ?_) fun _ => ?_ | refine aT ?_ | refine gc_B (fun _ => ?_) fun _ => ?_) | fail)
   rw [e2]
 ·rw [if_neg hb, decide_eq_false hb]
  repeat' (first | refine aS ?_ | refine yc ?_ | (show zn; refine aA ?_) | (show gA; first | refine aH (fun _ => ?_) fun _ => ?_ | refine gc_E (fun _ => ?_) fun _ => ?_ | refine gc_N (fun _ => ?_) fun _ => ?_ | refine aT ?_ | refine gc_B (fun _ => ?_) fun _ => ?_) | fail)
  rfl
abbrev aK4 (x p : Int) : Prop := Tm x ∧ -1000000 ≤ p ∧ p ≤ 1000000
def scl (x p : Int) : Int := if aK4 x p then x * p / 1000000 else 0
theorem aLh {x p : Int} (h : aK4 x p) : -1099511627776000000 ≤ x * p ∧ x * p ≤ 1099511627776000000 := by
 obtain ⟨⟨h1, h2⟩, h3, h4⟩ := h
 have a : x.natAbs ≤ 1099511627776 := by omega
 have b : p.natAbs ≤ 1000000 := by omega
 have c : (x * p).natAbs ≤ 1099511627776 * 1000000 := by rw [Int.natAbs_mul]; exact Nat.mul_le_mul a b
 omega
theorem aIe {s : Option Nat} {H : aC} {x p : Int} : Call tab s f9 [.int .i64 x, .int .i64 p] H = some (.tup [.int .i64 (scl x p), .bool (decide (aK4 x p))], H) := by
 ((first | refine aJ ?_ | skip); refine bX (cf := pH) rfl rfl rfl rfl ?_; unfold pH; dsimp only [aB, Nat.reduceAdd, Nat.zero_add])
 unfold scl
 by_cases h : aK4 x p
 ·have hm := aLh h
  have hw : IntKind.i64.wrap (x * p) = x * p := IntWalk.i64_in _ (by omega)
  have hf := @aCd (b := 1000000)
  have h1 : decide (Tm x) = true := decide_eq_true h.1
  have h2 := h.2
  rw [if_pos h, decide_eq_true h]
  repeat' (first | refine aS ?_ | refine yc ?_ (ha := by first | exact dH | exact aCd (by unfold I64; omega) | assumption) | (show zn; refine aA ?_ (ha := by first | exact dH | exact aCd (by unfold I64; omega) | assumption)) | (show gA; first | refine aH (fun _ => ?_) fun _ => ?_ | refine gc_E (fun _ => ?_) fun _ => ?_ | refine gc_N (fun _ => ?_) fun _ => ?_ | refine aT ?_ | refine gc_B (fun _ => ?_) fun _ => ?_) | fail)
  rfl
 ·rw [if_neg h, decide_eq_false h]
  by_cases h1 : Tm x
  ·have h2 : ¬ (-1000000 ≤ p ∧ p ≤ 1000000) := fun k => h ⟨h1, k⟩
   have h1' : decide (Tm x) = true := decide_eq_true h1
   repeat' (first | refine aS ?_ | refine yc ?_ (ha := by first | exact dH | assumption) | (show zn; refine aA ?_ (ha := by first | exact dH | assumption)) | (show gA; first | refine aH (fun _ => ?_) fun _ => ?_ | refine gc_E (fun _ => ?_) fun _ => ?_ | refine gc_N (fun _ => ?_) fun _ => ?_ | refine aT ?_ | refine gc_B (fun _ => ?_) fun _ => ?_) | fail)
   all_goals first | rfl | (exfalso; omega)
  ·have h1' : decide (Tm x) = false := decide_eq_false h1
   repeat' (first | refine aS ?_ | refine yc ?_ (ha := by first | exact dH | assumption) | (show zn; refine aA ?_ (ha := by first | exact dH | assumption)) | (show gA; first | refine aH (fun _ => ?_) fun _ => ?_ | refine gc_E (fun _ => ?_) fun _ => ?_ | refine gc_N (fun _ => ?_) fun _ => ?_ | refine aT ?_ | refine gc_B (fun _ => ?_) fun _ => ?_) | fail)
   all_goals rfl
theorem aEi {s : Option Nat} {H : aC} {x p : Int} : Call tab s o8 [.int .i64 x, .int .i64 p] H = some (.tup [.int .i64 (scl x p), .bool (decide (aK4 x p))], H) := by
 ((first | refine aJ ?_ | skip); refine bX (cf := rH) rfl rfl rfl rfl ?_; unfold rH; dsimp only [aB, Nat.reduceAdd, Nat.zero_add])
 unfold scl
 by_cases h : aK4 x p
 ·have hm := aLh h
  have hw : IntKind.i64.wrap (x * p) = x * p := IntWalk.i64_in _ (by omega)
  have h1 : decide (Tm x) = true := decide_eq_true h.1
  have h2 := h.2
  rw [if_pos h, decide_eq_true h]
  repeat' (first | refine aS ?_ | refine yc ?_ (ha := by first | exact bH | exact aEh (by unfold I64; omega) | assumption) | (show zn; refine aA ?_ (ha := by first | exact bH | exact aEh (by unfold I64; omega) | assumption)) | (show gA; first | refine aH (fun _ => ?_) fun _ => ?_ | refine gc_E (fun _ => ?_) fun _ => ?_ | refine gc_N (fun _ => ?_) fun _ => ?_ | refine aT ?_ | refine gc_B (fun _ => ?_) fun _ => ?_) | fail)
  rfl
 ·rw [if_neg h, decide_eq_false h]
  by_cases h1 : Tm x
  ·have h2 : ¬ (-1000000 ≤ p ∧ p ≤ 1000000) := fun k => h ⟨h1, k⟩
   have h1' : decide (Tm x) = true := decide_eq_true h1
   repeat' (first | refine aS ?_ | refine yc ?_ (ha := by first | exact bH | assumption) | (show zn; refine aA ?_ (ha := by first | exact bH | assumption)) | (show gA; first | refine aH (fun _ => ?_) fun _ => ?_ | refine gc_E (fun _ => ?_) fun _ => ?_ | refine gc_N (fun _ => ?_) fun _ => ?_ | refine aT ?_ | refine gc_B (fun _ => ?_) fun _ => ?_) | fail)
   all_goals first | rfl | (exfalso; omega)
  ·have h1' : decide (Tm x) = false := decide_eq_false h1
   repeat' (first | refine aS ?_ | refine yc ?_ (ha := by first | exact bH | assumption) | (show zn; refine aA ?_ (ha := by first | exact bH | assumption)) | (show gA; first | refine aH (fun _ => ?_) fun _ => ?_ | refine gc_E (fun _ => ?_) fun _ => ?_ | refine gc_N (fun _ => ?_) fun _ => ?_ | refine aT ?_ | refine gc_B (fun _ => ?_) fun _ => ?_) | fail)
   all_goals rfl
def real (x p : Int) : Int := IntKind.i64.wrap (x - scl x p)
theorem uF {s : Option Nat} {H : aC} {x p : Int} : Call tab s o5 [.int .i64 x, .int .i64 p] H = some (.int .i64 (real x p), H) := by
 ((first | refine aJ ?_ | skip); refine bX (cf := rP) rfl rfl rfl rfl ?_; unfold rP; dsimp only [aB, Nat.reduceAdd, Nat.zero_add])
 repeat' (first | refine aS ?_ | refine yc ?_ (ha := by first | exact aIe | assumption) | (show zn; refine aA ?_ (ha := by first | exact aIe | assumption)) | (show gA; first | refine aH (fun _ => ?_) fun _ => ?_ | refine gc_E (fun _ => ?_) fun _ => ?_ | refine gc_N (fun _ => ?_) fun _ => ?_ | refine aT ?_ | refine gc_B (fun _ => ?_) fun _ => ?_) | fail)
 rfl
theorem zK {s : Option Nat} {H : aC} {x p : Int} : Call tab s F2 [.int .i64 x, .int .i64 p] H = some (.int .i64 (real x p), H) := by
 ((first | refine aJ ?_ | skip); refine bX (cf := tE) rfl rfl rfl rfl ?_; unfold tE; dsimp only [aB, Nat.reduceAdd, Nat.zero_add])
 repeat' (first | refine aS ?_ | refine yc ?_ (ha := by first | exact aEi | assumption) | (show zn; refine aA ?_ (ha := by first | exact aEi | assumption)) | (show gA; first | refine aH (fun _ => ?_) fun _ => ?_ | refine gc_E (fun _ => ?_) fun _ => ?_ | refine gc_N (fun _ => ?_) fun _ => ?_ | refine aT ?_ | refine gc_B (fun _ => ?_) fun _ => ?_) | fail)
 rfl
end Go.Abs
namespace Go.Abs
open Go.Proofs.YtpcnjabfiahhhaaGreatDoor
attribute [local irreducible] enL R RR fP fB pX fK fQ pU apply fT gQ bW bZ eJ bR iL bG bD eC cR kD dO V.rb V.rbL
theorem aCe (r : BitVec 32) : IntKind.u32.wrap (r.toNat : Int) = r.toNat := IntWalk.u32_in _ (by have := r.isLt; omega)
theorem aU4 (q : BitVec 32) : IntKind.u32.wrap (BitVec.ofInt IntKind.u32.bits (q.toNat : Int) &&& BitVec.ofInt IntKind.u32.bits 2147483648).toNat = if q.msb then 2147483648 else 0 := by
 show IntKind.u32.wrap (BitVec.ofInt 32 (q.toNat : Int) &&& 2147483648#32).toNat = _
 rw [uV, aLp]; split <;> rfl
theorem aLi (q : BitVec 32) : IntKind.u32.wrap ((q.toNat : Int) * 2) = ((q <<< 1).toNat : Int) := by
 rw [IntKind.wrap_u32, aLq]; omega
theorem aIf (q : BitVec 32) : IntKind.u32.wrap (BitVec.ofInt IntKind.u32.bits (q.toNat : Int) ^^^ BitVec.ofInt IntKind.u32.bits 79764919).toNat = ((q ^^^ 0x04c11db7#32).toNat : Int) := by
 show IntKind.u32.wrap (BitVec.ofInt 32 (q.toNat : Int) ^^^ 0x04c11db7#32).toNat = _
 rw [uV, aCe]
theorem aU5 (q r : BitVec 32) : IntKind.u32.wrap (BitVec.ofInt IntKind.u32.bits (q.toNat : Int) ^^^ BitVec.ofInt IntKind.u32.bits (r.toNat : Int)).toNat = ((q ^^^ r).toNat : Int) := by
 show IntKind.u32.wrap (BitVec.ofInt 32 (q.toNat : Int) ^^^ BitVec.ofInt 32 (r.toNat : Int)).toNat = _
 rw [uV, uV, aCe]
theorem aU6 (q : BitVec 32) : IntKind.u32.wrap (BitVec.ofInt IntKind.u32.bits (if IntKind.u32.signed then -1 else IntKind.u32.max) ^^^ BitVec.ofInt IntKind.u32.bits (q.toNat : Int)).toNat = ((~~~ q).toNat : Int) := by
 show IntKind.u32.wrap (4294967295#32 ^^^ BitVec.ofInt 32 (q.toNat : Int)).toNat = _
 rw [uV, show (4294967295#32) = BitVec.allOnes 32 from rfl, BitVec.xor_comm, BitVec.xor_allOnes, aCe]
theorem aLj {q : BitVec 32} (h : q.msb = true) : vR q = (q <<< 1) ^^^ 0x04c11db7#32 := by unfold vR; rw [if_pos h]
theorem aLk {q : BitVec 32} (h : q.msb = false) : vR q = q <<< 1 := by unfold vR; rw [if_neg (by rw [h]; decide)]
set_option maxHeartbeats 1000000 in
theorem aLl {s : Option Nat} {H : aC} {r : BitVec 32} : Call tab s N6 [.int .u32 (r.toNat : Int)] H = some (.int .u32 ((N2 8 r).toNat : Int), H) := by
 ((first | refine aJ ?_ | skip); refine bX (cf := wV) rfl rfl rfl rfl ?_; unfold wV; dsimp only [aB, Nat.reduceAdd, Nat.zero_add])
 repeat' (first | refine aS ?_ | refine yc ?_ | (show zn; refine aA ?_) | (show gA; first | refine aH (fun _ => ?_) fun _ => ?_ | refine gc_E (fun _ => ?_) fun _ => ?_ | refine gc_N (fun _ => ?_) fun _ => ?_ | refine aT ?_ | refine gc_B (fun _ => ?_) fun _ => ?_) | fail)
 refine xU 8 (fun i (_ : Unit) => [(0, .int .u32 ((N2 i r).toNat : Int)), (3, .int .i64 i)]) (fun _ _ => []) (fun _ _ => True) ?_ ?_ () trivial
 ·intro i _ hi _ ih
  rw [aB6] at ih
  generalize N2 i r = q at *
  have h1 := aU4 q
  have h2 := aLi q
  have hw : IntKind.i64.wrap ((i : Int) + 1) = ((i + 1 : Nat) : Int) := IntWalk.i64_in _ (by omega)
  refine cD (by dsimp only [pN, lk, Nat.reduceBEq, cond_true, cond_false, Option.getD_some, Option.getD_none]; first | done | exact rfl) ?_; refine aY ?_
  unfold wU
  cases hm : q.msb
  ·rw [hm, if_neg (by decide)] at h1
   repeat' (first | refine aS ?_ | refine yc ?_ | (show zn; refine aA ?_) | (show gA; first | refine aH (fun _ => ?_) fun _ => ?_ | refine gc_E (fun _ => ?_) fun _ => ?_ | refine gc_N (fun _ => ?_) fun _ => ?_ | refine aT ?_ | refine gc_B (fun _ => ?_) fun _ => ?_) | fail)
   refine jQ ?_
   rw [aLk hm] at ih
   exact ih () trivial
  ·rw [hm, if_pos rfl] at h1
   have h3 := aIf (q <<< 1)
   have h4 : ¬ IntKind.u32.wrap (BitVec.ofInt IntKind.u32.bits (q.toNat : Int) &&& BitVec.ofInt IntKind.u32.bits 2147483648).toNat = 0 := by rw [h1]; decide
   repeat' (first | refine aS ?_ | refine yc ?_ | (show zn; refine aA ?_) | (show gA; first | refine aH (fun _ => ?_) fun _ => ?_ | refine gc_E (fun _ => ?_) fun _ => ?_ | refine gc_N (fun _ => ?_) fun _ => ?_ | refine aT ?_ | refine gc_B (fun _ => ?_) fun _ => ?_) | fail)
   refine jQ ?_
   rw [aLj hm, ← h3] at ih
   exact ih () trivial
 ·intro _ _
  refine cD (by dsimp only [pN, lk, Nat.reduceBEq, cond_true, cond_false, Option.getD_some, Option.getD_none]; first | done | exact rfl) ?_; refine aY ?_
  unfold wU
  repeat' (first | refine aS ?_ | refine yc ?_ | (show zn; refine aA ?_) | (show gA; first | refine aH (fun _ => ?_) fun _ => ?_ | refine gc_E (fun _ => ?_) fun _ => ?_ | refine gc_N (fun _ => ?_) fun _ => ?_ | refine aT ?_ | refine gc_B (fun _ => ?_) fun _ => ?_) | fail)
  rfl
set_option maxHeartbeats 1000000 in
theorem aIg {s : Option Nat} {H : aC} {r : BitVec 32} : Call tab s r8 [.int .u32 (r.toNat : Int)] H = some (.int .u32 ((N2 8 r).toNat : Int), H) := by
 ((first | refine aJ ?_ | skip); refine bX (cf := rL) rfl rfl rfl rfl ?_; unfold rL; dsimp only [aB, Nat.reduceAdd, Nat.zero_add])
 repeat' (first | refine aS ?_ | refine yc ?_ | (show zn; refine aA ?_) | (show gA; first | refine aH (fun _ => ?_) fun _ => ?_ | refine gc_E (fun _ => ?_) fun _ => ?_ | refine gc_N (fun _ => ?_) fun _ => ?_ | refine aT ?_ | refine gc_B (fun _ => ?_) fun _ => ?_) | fail)
 refine xU 8 (fun i (_ : Unit) => [(0, .int .u32 ((N2 i r).toNat : Int)), (3, .int .i64 i)]) (fun _ _ => []) (fun _ _ => True) ?_ ?_ () trivial
 ·intro i _ hi _ ih
  rw [aB6] at ih
  generalize N2 i r = q at *
  have h2 := aLi q
  have h1 := aXx q
  have hl := q.isLt
  have hw : IntKind.i64.wrap ((i : Int) + 1) = ((i + 1 : Nat) : Int) := IntWalk.i64_in _ (by omega)
  refine cD (by dsimp only [pN, lk, Nat.reduceBEq, cond_true, cond_false, Option.getD_some, Option.getD_none]; first | done | exact rfl) ?_; refine aY ?_
  unfold sP
  cases hm : q.msb
  ·rw [hm, if_neg (by decide)] at h1
   repeat' (first | refine aS ?_ | refine yc ?_ | (show zn; refine aA ?_) | (show gA; first | refine aH (fun _ => ?_) fun _ => ?_ | refine gc_E (fun _ => ?_) fun _ => ?_ | refine gc_N (fun _ => ?_) fun _ => ?_ | refine aT ?_ | refine gc_B (fun _ => ?_) fun _ => ?_) | fail)
   refine jQ ?_
   rw [aLk hm] at ih
   exact ih () trivial
  ·rw [hm, if_pos rfl] at h1
   have h3 := aIf (q <<< 1)
   repeat' (first | refine aS ?_ | refine yc ?_ | (show zn; refine aA ?_) | (show gA; first | refine aH (fun _ => ?_) fun _ => ?_ | refine gc_E (fun _ => ?_) fun _ => ?_ | refine gc_N (fun _ => ?_) fun _ => ?_ | refine aT ?_ | refine gc_B (fun _ => ?_) fun _ => ?_) | fail)
   refine jQ ?_
   rw [aLj hm, ← h3] at ih
   exact ih () trivial
 ·intro _ _
  refine cD (by dsimp only [pN, lk, Nat.reduceBEq, cond_true, cond_false, Option.getD_some, Option.getD_none]; first | done | exact rfl) ?_; refine aY ?_
  unfold sP
  repeat' (first | refine aS ?_ | refine yc ?_ | (show zn; refine aA ?_) | (show gA; first | refine aH (fun _ => ?_) fun _ => ?_ | refine gc_E (fun _ => ?_) fun _ => ?_ | refine gc_N (fun _ => ?_) fun _ => ?_ | refine aT ?_ | refine gc_B (fun _ => ?_) fun _ => ?_) | fail)
  rfl
end Go.Abs
namespace Go.Abs
open Go.Proofs.YtpcnjabfiahhhaaGreatDoor
attribute [local irreducible] enL R RR fP fB pX fK fQ pU apply fT gQ bW bZ eJ bR iL bG bD eC cR kD dO V.rb V.rbL
theorem aW4 {s : Option Nat} {H : aC} {q r : BitVec 32} : apply s (.bin .xor) [.int .u32 (q.toNat : Int), .int .u32 (r.toNat : Int)] H = some (.int .u32 ((q ^^^ r).toNat : Int), H) := by rw [aMr, aU5]
theorem aW5 {s : Option Nat} {H : aC} {q : BitVec 32} : apply s (.un .xor) [.int .u32 (q.toNat : Int)] H = some (.int .u32 ((~~~ q).toNat : Int), H) := by rw [aTt, aU6]
def aNw (r : BitVec 32) (c : UInt8) : BitVec 32 := N2 8 (r ^^^ BitVec.ofNat 32 (c.toNat * 16777216))
def crc (s : BitVec 32) (b : List UInt8) : BitVec 32 := ~~~ (b.foldl aNw (~~~ s))
theorem aBr {α β : Type} {f : β → α → β} {r : β} {l : List α} {i : Nat} {x : α} (h : l[i]? = some x) : (l.take (i + 1)).foldl f r = f ((l.take i).foldl f r) x := by
 rw [← oT h, List.foldl_append]; rfl
theorem aTp (x : UInt8) : IntKind.u32.wrap (x.toNat : Int) = (x.toNat : Int) := IntWalk.u32_in _ (by have := x.toNat_lt; omega)
theorem aTq (x : UInt8) : IntKind.u32.wrap ((x.toNat : Int) * 16777216) = ((BitVec.ofNat 32 (x.toNat * 16777216)).toNat : Int) := by
 have := x.toNat_lt
 rw [BitVec.toNat_ofNat, IntWalk.u32_in _ (by omega), Nat.mod_eq_of_lt (by omega)]
 omega
set_option maxHeartbeats 1000000 in
theorem aNx {s : Option Nat} {H : aC} {r : BitVec 32} {b : List UInt8} (hb : b.length ≤ 140737488355328) : Call tab s N5 [.int .u32 (r.toNat : Int), .sl none b.length (enL b)] H = some (.int .u32 ((crc r b).toNat : Int), H) := by
 ((first | refine aJ ?_ | skip); refine bX (cf := wT) rfl rfl rfl rfl ?_; unfold wT; dsimp only [aB, Nat.reduceAdd, Nat.zero_add])
 repeat' (first | refine aS ?_ | refine yc ?_ | (show zn; refine aA ?_) | (show gA; first | refine aH (fun _ => ?_) fun _ => ?_ | refine gc_E (fun _ => ?_) fun _ => ?_ | refine gc_N (fun _ => ?_) fun _ => ?_ | refine aT ?_ | refine gc_B (fun _ => ?_) fun _ => ?_) | fail)
 refine xU b.length (fun i (_ : Unit) => [(5, .int .u32 (((b.take i).foldl aNw (~~~ r)).toNat : Int)), (12, .int .i64 i)]) (fun _ _ => []) (fun _ _ => True) ?_ ?_ () trivial
 ·intro i _ hi _ ih
  obtain ⟨x, hx⟩ := xT hi
  rw [aBr hx] at ih
  generalize (b.take i).foldl aNw (~~~ r) = q at *
  have h1 := aTp x
  have h2 := aTq x
  have hl : (i : Int) < (b.length : Int) := by omega
  have hw : IntKind.i64.wrap ((i : Int) + 1) = ((i + 1 : Nat) : Int) := IntWalk.i64_in _ (by omega)
  refine cD (by dsimp only [pN, lk, Nat.reduceBEq, cond_true, cond_false, Option.getD_some, Option.getD_none]; first | done | exact rfl) ?_; refine aY ?_
  unfold wS
  repeat' (first | refine aS ?_ | refine yc ?_ (ha := by first | exact aLl | assumption) | (show zn; refine aA ?_ (ha := by first | exact aLl | assumption)) | (show gA; first | refine aH (fun _ => ?_) fun _ => ?_ | refine gc_E (fun _ => ?_) fun _ => ?_ | refine gc_N (fun _ => ?_) fun _ => ?_ | refine aT ?_ | refine gc_B (fun _ => ?_) fun _ => ?_) | fail)
  refine jQ ?_
  exact ih () trivial
 ·intro _ _
  refine cD (by dsimp only [pN, lk, Nat.reduceBEq, cond_true, cond_false, Option.getD_some, Option.getD_none]; first | done | exact rfl) ?_; refine aY ?_
  unfold wS
  repeat' (first | refine aS ?_ | refine yc ?_ | (show zn; refine aA ?_) | (show gA; first | refine aH (fun _ => ?_) fun _ => ?_ | refine gc_E (fun _ => ?_) fun _ => ?_ | refine gc_N (fun _ => ?_) fun _ => ?_ | refine aT ?_ | refine gc_B (fun _ => ?_) fun _ => ?_) | fail)
  rw [List.take_length]; rfl
set_option maxHeartbeats 1000000 in
theorem aJ6 {s : Option Nat} {H : aC} {r : BitVec 32} {b : List UInt8} (hb : b.length ≤ 140737488355328) : Call tab s G4 [.int .u32 (r.toNat : Int), .sl none b.length (enL b)] H = some (.int .u32 ((crc r b).toNat : Int), H) := by
 ((first | refine aJ ?_ | skip); refine bX (cf := tI) rfl rfl rfl rfl ?_; unfold tI; dsimp only [aB, Nat.reduceAdd, Nat.zero_add])
 repeat' (first | refine aS ?_ | refine yc ?_ | (show zn; refine aA ?_) | (show gA; first | refine aH (fun _ => ?_) fun _ => ?_ | refine gc_E (fun _ => ?_) fun _ => ?_ | refine gc_N (fun _ => ?_) fun _ => ?_ | refine aT ?_ | refine gc_B (fun _ => ?_) fun _ => ?_) | fail)
 refine xU b.length (fun i (_ : Unit) => [(0, .int .u32 (((b.take i).foldl aNw (~~~ r)).toNat : Int)), (5, .int .i64 i)]) (fun _ _ => []) (fun _ _ => True) ?_ ?_ () trivial
 ·intro i _ hi _ ih
  obtain ⟨x, hx⟩ := xT hi
  rw [aBr hx] at ih
  generalize (b.take i).foldl aNw (~~~ r) = q at *
  have h1 := aTp x
  have h2 := aTq x
  have hl : (i : Int) < (b.length : Int) := by omega
  have hw : IntKind.i64.wrap ((i : Int) + 1) = ((i + 1 : Nat) : Int) := IntWalk.i64_in _ (by omega)
  refine cD (by dsimp only [pN, lk, Nat.reduceBEq, cond_true, cond_false, Option.getD_some, Option.getD_none]; first | done | exact rfl) ?_; refine aY ?_
  unfold uL
  repeat' (first | refine aS ?_ | refine yc ?_ (ha := by first | exact aIg | assumption) | (show zn; refine aA ?_ (ha := by first | exact aIg | assumption)) | (show gA; first | refine aH (fun _ => ?_) fun _ => ?_ | refine gc_E (fun _ => ?_) fun _ => ?_ | refine gc_N (fun _ => ?_) fun _ => ?_ | refine aT ?_ | refine gc_B (fun _ => ?_) fun _ => ?_) | fail)
  refine jQ ?_
  exact ih () trivial
 ·intro _ _
  refine cD (by dsimp only [pN, lk, Nat.reduceBEq, cond_true, cond_false, Option.getD_some, Option.getD_none]; first | done | exact rfl) ?_; refine aY ?_
  unfold uL
  repeat' (first | refine aS ?_ | refine yc ?_ | (show zn; refine aA ?_) | (show gA; first | refine aH (fun _ => ?_) fun _ => ?_ | refine gc_E (fun _ => ?_) fun _ => ?_ | refine gc_N (fun _ => ?_) fun _ => ?_ | refine aT ?_ | refine gc_B (fun _ => ?_) fun _ => ?_) | fail)
  rw [List.take_length]; rfl
theorem bA1 {s : Option Nat} {H : aC} {b : List UInt8} (hb : b.length ≤ 140737488355328) : Call tab s aEr [.sl none b.length (enL b)] H = some (.int .u32 ((crc 0#32 b).toNat : Int), H) := by
 ((first | refine aJ ?_ | skip); refine bX (cf := y0) rfl rfl rfl rfl ?_; unfold y0; dsimp only [aB, Nat.reduceAdd, Nat.zero_add])
 repeat' (first | refine aS ?_ | refine yc ?_ (ha := by first | exact aNx (r := 0#32) hb | assumption) | (show zn; refine aA ?_ (ha := by first | exact aNx (r := 0#32) hb | assumption)) | (show gA; first | refine aH (fun _ => ?_) fun _ => ?_ | refine gc_E (fun _ => ?_) fun _ => ?_ | refine gc_N (fun _ => ?_) fun _ => ?_ | refine aT ?_ | refine gc_B (fun _ => ?_) fun _ => ?_) | fail)
 rfl
theorem aTr {s : Option Nat} {H : aC} {b : List UInt8} (hb : b.length ≤ 140737488355328) : Call tab s aB7 [.sl none b.length (enL b)] H = some (.int .u32 ((crc 0#32 b).toNat : Int), H) := by
 ((first | refine aJ ?_ | skip); refine bX (cf := zX) rfl rfl rfl rfl ?_; unfold zX; dsimp only [aB, Nat.reduceAdd, Nat.zero_add])
 repeat' (first | refine aS ?_ | refine yc ?_ (ha := by first | exact aJ6 (r := 0#32) hb | assumption) | (show zn; refine aA ?_ (ha := by first | exact aJ6 (r := 0#32) hb | assumption)) | (show gA; first | refine aH (fun _ => ?_) fun _ => ?_ | refine gc_E (fun _ => ?_) fun _ => ?_ | refine gc_N (fun _ => ?_) fun _ => ?_ | refine aT ?_ | refine gc_B (fun _ => ?_) fun _ => ?_) | fail)
 rfl
def yR (b : List UInt8) : List UInt8 := b ++ [b8 ((crc 0#32 b).toNat / 16777216 : Int), b8 ((crc 0#32 b).toNat / 65536 : Int), b8 ((crc 0#32 b).toNat / 256 : Int), b8 ((crc 0#32 b).toNat : Int)]
theorem uK {s : Option Nat} {H : aC} {b : List UInt8} (hb : b.length ≤ 140737488350000) : Call tab s fF [.sl none b.length (enL b)] H = some (.sl (some 1) (yR b).length (enL (yR b)), H) := by
 ((first | refine aJ ?_ | skip); refine bX (cf := wP) rfl rfl rfl rfl ?_; unfold wP; dsimp only [aB, Nat.reduceAdd, Nat.zero_add])
 unfold yR
 repeat' (first | refine aS ?_ | refine yc ?_ (ha := by first | exact bA1 (by omega) | assumption) | (show zn; refine aA ?_ (ha := by first | exact bA1 (by omega) | assumption)) | (show gA; first | refine aH (fun _ => ?_) fun _ => ?_ | refine gc_E (fun _ => ?_) fun _ => ?_ | refine gc_N (fun _ => ?_) fun _ => ?_ | refine aT ?_ | refine gc_B (fun _ => ?_) fun _ => ?_) | fail)
 rfl
theorem aJ7 {s : Option Nat} {H : aC} {l : List UInt8} (h : l.length ≤ 140737488355328) : Call tab s sX [.sl none l.length (enL l)] H = some (.sl (some 1) l.length (enL l), H) := by
 ((first | refine aJ ?_ | skip); refine bX (cf := tO) rfl rfl rfl rfl ?_; unfold tO; dsimp only [aB, Nat.reduceAdd, Nat.zero_add])
 repeat' (first | refine aS ?_ | refine yc ?_ | (show zn; refine aA ?_) | (show gA; first | refine aH (fun _ => ?_) fun _ => ?_ | refine gc_E (fun _ => ?_) fun _ => ?_ | refine gc_N (fun _ => ?_) fun _ => ?_ | refine aT ?_ | refine gc_B (fun _ => ?_) fun _ => ?_) | fail)
 rfl
theorem pM {s : Option Nat} {H : aC} {b : List UInt8} (hb : b.length ≤ 140737488350000) : Call tab s dT [.sl none b.length (enL b)] H = some (.sl (some 1) (yR b).length (enL (yR b)), H) := by
 ((first | refine aJ ?_ | skip); refine bX (cf := tL) rfl rfl rfl rfl ?_; unfold tL; dsimp only [aB, Nat.reduceAdd, Nat.zero_add])
 unfold yR
 repeat' (first | refine aS ?_ | refine yc ?_ (ha := by first | exact aTr (by omega) | exact aJ7 (by omega) | assumption) | (show zn; refine aA ?_ (ha := by first | exact aTr (by omega) | exact aJ7 (by omega) | assumption)) | (show gA; first | refine aH (fun _ => ?_) fun _ => ?_ | refine gc_E (fun _ => ?_) fun _ => ?_ | refine gc_N (fun _ => ?_) fun _ => ?_ | refine aT ?_ | refine gc_B (fun _ => ?_) fun _ => ?_) | fail)
 rfl
end Go.Abs
