/- A part of the proof of RowAirFits, RowAirHeard, RowAirOrder, RowAirLost: lemmas alone, without conditions. -/
import Derived.Test.YtpcnjabfiahhhaaGreatDoorK22
import Derived.KernelRfl
set_option linter.all false
namespace Go.Abs
open Go.Proofs.YtpcnjabfiahhhaaGreatDoor
attribute [local irreducible] enL R RR dF cZ lV dE dG mP apply dB eI aX aZ cO aW fB aP aN cK bN gL cA V.rb V.rbL
theorem aV3 {s : Option Nat} {H : aB} {q r : BitVec 32} : apply s (.bin .xor) [.int .u32 (q.toNat : Int), .int .u32 (r.toNat : Int)] H = some (.int .u32 ((q ^^^ r).toNat : Int), H) := by rw [aMy, aV0]
theorem aV4 {s : Option Nat} {H : aB} {q : BitVec 32} : apply s (.un .xor) [.int .u32 (q.toNat : Int)] H = some (.int .u32 ((~~~ q).toNat : Int), H) := by rw [aRk, aV1]
def aOc (r : BitVec 32) (c : UInt8) : BitVec 32 := aAa 8 (r ^^^ BitVec.ofNat 32 (c.toNat * 16777216))
def crc (s : BitVec 32) (b : List UInt8) : BitVec 32 := ~~~ (b.foldl aOc (~~~ s))
theorem aCu {α β : Type} {f : β → α → β} {r : β} {l : List α} {i : Nat} {x : α} (h : l[i]? = some x) : (l.take (i + 1)).foldl f r = f ((l.take i).foldl f r) x := by
 rw [← kO h, List.foldl_append]; rfl
theorem aRr (x : UInt8) : IntKind.u32.wrap (x.toNat : Int) = (x.toNat : Int) := IntWalk.u32_in _ (by have := x.toNat_lt; omega)
theorem aRs (x : UInt8) : IntKind.u32.wrap ((x.toNat : Int) * 16777216) = ((BitVec.ofNat 32 (x.toNat * 16777216)).toNat : Int) := by
 have := x.toNat_lt
 rw [BitVec.toNat_ofNat, IntWalk.u32_in _ (by omega), Nat.mod_eq_of_lt (by omega)]
 omega
set_option maxHeartbeats 1000000 in
theorem aV5 {s : Option Nat} {H : aB} {r : BitVec 32} {b : List UInt8} (hb : b.length ≤ 140737488355328) : Call tab s aA7 [.int .u32 (r.toNat : Int), .sl none b.length (enL b)] H = some (.int .u32 ((crc r b).toNat : Int), H) := by
 ((first | refine aC ?_ | skip); refine bE (cf := y6) rfl rfl rfl rfl ?_; unfold y6; dsimp only [aA, Nat.reduceAdd, Nat.zero_add])
 repeat' (first | refine aF ?_ | refine yc ?_ | refine sG (fun _ => ?_) fun _ => ?_ | refine aG ?_ | refine sH (fun _ => ?_) fun _ => ?_ | fail)
 refine oK b.length (fun i (_ : Unit) => [(5, .int .u32 (((b.take i).foldl aOc (~~~ r)).toNat : Int)), (12, .int .i64 i)]) (fun _ _ => []) (fun _ _ => True) ?_ ?_ () trivial
 ·intro i _ hi _ ih
  obtain ⟨x, hx⟩ := oZ hi
  rw [aCu hx] at ih
  generalize (b.take i).foldl aOc (~~~ r) = q at *
  have h1 := aRr x
  have h2 := aRs x
  have hl : (i : Int) < (b.length : Int) := by omega
  have hw : IntKind.i64.wrap ((i : Int) + 1) = ((i + 1 : Nat) : Int) := IntWalk.i64_in _ (by omega)
  refine aJ (by dsimp only [eT, lk, Nat.reduceBEq, cond_true, cond_false, Option.getD_some, Option.getD_none]; first | done | exact rfl) ?_; refine aE ?_
  unfold xG
  repeat' (first | refine aF ?_ | refine yc ?_ (ha := by first | exact aV2 | assumption) | refine sG (fun _ => ?_) fun _ => ?_ | refine aG ?_ | refine sH (fun _ => ?_) fun _ => ?_ | fail)
  refine cV ?_
  exact ih () trivial
 ·intro _ _
  refine aJ (by dsimp only [eT, lk, Nat.reduceBEq, cond_true, cond_false, Option.getD_some, Option.getD_none]; first | done | exact rfl) ?_; refine aE ?_
  unfold xG
  repeat' (first | refine aF ?_ | refine yc ?_ | refine sG (fun _ => ?_) fun _ => ?_ | refine aG ?_ | refine sH (fun _ => ?_) fun _ => ?_ | fail)
  rw [List.take_length]; rfl
set_option maxHeartbeats 1000000 in
theorem aR3 {s : Option Nat} {H : aB} {r : BitVec 32} {b : List UInt8} (hb : b.length ≤ 140737488355328) : Call tab s N8 [.int .u32 (r.toNat : Int), .sl none b.length (enL b)] H = some (.int .u32 ((crc r b).toNat : Int), H) := by
 ((first | refine aC ?_ | skip); refine bE (cf := j4) rfl rfl rfl rfl ?_; unfold j4; dsimp only [aA, Nat.reduceAdd, Nat.zero_add])
 repeat' (first | refine aF ?_ | refine yc ?_ | refine sG (fun _ => ?_) fun _ => ?_ | refine aG ?_ | refine sH (fun _ => ?_) fun _ => ?_ | fail)
 refine oK b.length (fun i (_ : Unit) => [(0, .int .u32 (((b.take i).foldl aOc (~~~ r)).toNat : Int)), (5, .int .i64 i)]) (fun _ _ => []) (fun _ _ => True) ?_ ?_ () trivial
 ·intro i _ hi _ ih
  obtain ⟨x, hx⟩ := oZ hi
  rw [aCu hx] at ih
  generalize (b.take i).foldl aOc (~~~ r) = q at *
  have h1 := aRr x
  have h2 := aRs x
  have hl : (i : Int) < (b.length : Int) := by omega
  have hw : IntKind.i64.wrap ((i : Int) + 1) = ((i + 1 : Nat) : Int) := IntWalk.i64_in _ (by omega)
  refine aJ (by dsimp only [eT, lk, Nat.reduceBEq, cond_true, cond_false, Option.getD_some, Option.getD_none]; first | done | exact rfl) ?_; refine aE ?_
  unfold vL
  repeat' (first | refine aF ?_ | refine yc ?_ (ha := by first | exact aR0 | assumption) | refine sG (fun _ => ?_) fun _ => ?_ | refine aG ?_ | refine sH (fun _ => ?_) fun _ => ?_ | fail)
  refine cV ?_
  exact ih () trivial
 ·intro _ _
  refine aJ (by dsimp only [eT, lk, Nat.reduceBEq, cond_true, cond_false, Option.getD_some, Option.getD_none]; first | done | exact rfl) ?_; refine aE ?_
  unfold vL
  repeat' (first | refine aF ?_ | refine yc ?_ | refine sG (fun _ => ?_) fun _ => ?_ | refine aG ?_ | refine sH (fun _ => ?_) fun _ => ?_ | fail)
  rw [List.take_length]; rfl
theorem bB6 {s : Option Nat} {H : aB} {b : List UInt8} (hb : b.length ≤ 140737488355328) : Call tab s aGb [.sl none b.length (enL b)] H = some (.int .u32 ((crc 0#32 b).toNat : Int), H) := by
 ((first | refine aC ?_ | skip); refine bE (cf := aAn) rfl rfl rfl rfl ?_; unfold aAn; dsimp only [aA, Nat.reduceAdd, Nat.zero_add])
 repeat' (first | refine aF ?_ | refine yc ?_ (ha := by first | exact aV5 (r := 0#32) hb | assumption) | refine sG (fun _ => ?_) fun _ => ?_ | refine aG ?_ | refine sH (fun _ => ?_) fun _ => ?_ | fail)
 rfl
theorem aZ0 {s : Option Nat} {H : aB} {b : List UInt8} (hb : b.length ≤ 140737488355328) : Call tab s aCq [.sl none b.length (enL b)] H = some (.int .u32 ((crc 0#32 b).toNat : Int), H) := by
 ((first | refine aC ?_ | skip); refine bE (cf := I6) rfl rfl rfl rfl ?_; unfold I6; dsimp only [aA, Nat.reduceAdd, Nat.zero_add])
 repeat' (first | refine aF ?_ | refine yc ?_ (ha := by first | exact aR3 (r := 0#32) hb | assumption) | refine sG (fun _ => ?_) fun _ => ?_ | refine aG ?_ | refine sH (fun _ => ?_) fun _ => ?_ | fail)
 rfl
def qR (b : List UInt8) : List UInt8 := b ++ [b8 ((crc 0#32 b).toNat / 16777216 : Int), b8 ((crc 0#32 b).toNat / 65536 : Int), b8 ((crc 0#32 b).toNat / 256 : Int), b8 ((crc 0#32 b).toNat : Int)]
theorem aKq (b : List UInt8) : (qR b).length = b.length + 4 := by simp [qR]
theorem aOd {s : Option Nat} {H : aB} {b : List UInt8} (hb : b.length ≤ 140737488350000) : Call tab s aA3 [.sl none b.length (enL b)] H = some (.sl (some 1) (qR b).length (enL (qR b)), H) := by
 ((first | refine aC ?_ | skip); refine bE (cf := z6) rfl rfl rfl rfl ?_; unfold z6; dsimp only [aA, Nat.reduceAdd, Nat.zero_add])
 unfold qR
 repeat' (first | refine aF ?_ | refine yc ?_ (ha := by first | exact bB6 (by omega) | assumption) | refine sG (fun _ => ?_) fun _ => ?_ | refine aG ?_ | refine sH (fun _ => ?_) fun _ => ?_ | fail)
 rfl
theorem P7 {s : Option Nat} {H : aB} {l : List UInt8} (h : l.length ≤ 140737488355328) : Call tab s tX [.sl none l.length (enL l)] H = some (.sl (some 1) l.length (enL l), H) := by
 ((first | refine aC ?_ | skip); refine bE (cf := c8) rfl rfl rfl rfl ?_; unfold c8; dsimp only [aA, Nat.reduceAdd, Nat.zero_add])
 repeat' (first | refine aF ?_ | refine yc ?_ | refine sG (fun _ => ?_) fun _ => ?_ | refine aG ?_ | refine sH (fun _ => ?_) fun _ => ?_ | fail)
 rfl
theorem yI {s : Option Nat} {H : aB} {b : List UInt8} (hb : b.length ≤ 140737488350000) : Call tab s iD [.sl none b.length (enL b)] H = some (.sl (some 1) (qR b).length (enL (qR b)), H) := by
 ((first | refine aC ?_ | skip); refine bE (cf := zX) rfl rfl rfl rfl ?_; unfold zX; dsimp only [aA, Nat.reduceAdd, Nat.zero_add])
 unfold qR
 repeat' (first | refine aF ?_ | refine yc ?_ (ha := by first | exact aZ0 (by omega) | exact P7 (by omega) | assumption) | refine sG (fun _ => ?_) fun _ => ?_ | refine aG ?_ | refine sH (fun _ => ?_) fun _ => ?_ | fail)
 rfl
def opn (b : List UInt8) : Bool := decide (4 ≤ b.length) && decide (qR (b.take (b.length - 4)) = b)
theorem aV6 {s : Option Nat} {H : aB} {b : List UInt8} (hb : b.length ≤ 140737488350000) : Call tab s aA4 [.sl none b.length (enL b)] H = some (.tup (if opn b then [.sl (some 1) (b.take (b.length - 4)).length (enL (b.take (b.length - 4))), .bool true] else [.sl (some 1) 0 [], .bool false]), H) := by
 ((first | refine aC ?_ | skip); refine bE (cf := z7) rfl rfl rfl rfl ?_; unfold z7; dsimp only [aA, Nat.reduceAdd, Nat.zero_add])
 have hw : IntKind.i64.wrap ((b.length : Int) - 4) = (b.length : Int) - 4 := IntWalk.i64_in _ (by omega)
 by_cases h4 : 4 ≤ b.length
 ·have hn : ((b.length : Int) - 4).toNat = b.length - 4 := by omega
  have hl : (b.take (b.length - 4)).length ≤ 140737488350000 := by rw [List.length_take]; omega
  by_cases he : qR (b.take (b.length - 4)) = b
  ·have ho : opn b = true := by unfold opn; rw [decide_eq_true h4, decide_eq_true he]; rfl
   rw [ho, if_pos rfl]
   have hq : (qR (b.take (b.length - 4)) == b) = true := by rw [he]; exact beq_self_eq_true _
   repeat' (first | refine aF ?_ | refine yc ?_ (ha := by first | exact aOd hl | assumption) | refine sG (fun _ => ?_) fun _ => ?_ | refine aG ?_ | refine sH (fun _ => ?_) fun _ => ?_ | fail)
   rfl
  ·have ho : opn b = false := by unfold opn; rw [decide_eq_true h4, decide_eq_false he]; rfl
   rw [ho, if_neg (by decide)]
   have hq : (qR (b.take (b.length - 4)) == b) = false := by simpa using he
   repeat' (first | refine aF ?_ | refine yc ?_ (ha := by first | exact aOd hl | assumption) | refine sG (fun _ => ?_) fun _ => ?_ | refine aG ?_ | refine sH (fun _ => ?_) fun _ => ?_ | fail)
   rfl
 ·have ho : opn b = false := by unfold opn; rw [decide_eq_false h4]; rfl
  rw [ho, if_neg (by decide)]
  repeat' (first | refine aF ?_ | refine yc ?_ | refine sG (fun _ => ?_) fun _ => ?_ | refine aG ?_ | refine sH (fun _ => ?_) fun _ => ?_ | fail)
  rfl
theorem aR4 {s : Option Nat} {H : aB} {b : List UInt8} (hb : b.length ≤ 140737488350000) : Call tab s N2 [.sl none b.length (enL b)] H = some (.tup (if opn b then [.sl (some 1) (b.take (b.length - 4)).length (enL (b.take (b.length - 4))), .bool true] else [.sl (some 1) 0 [], .bool false]), H) := by
 ((first | refine aC ?_ | skip); refine bE (cf := zZ) rfl rfl rfl rfl ?_; unfold zZ; dsimp only [aA, Nat.reduceAdd, Nat.zero_add])
 have hw : IntKind.i64.wrap ((b.length : Int) - 4) = (b.length : Int) - 4 := IntWalk.i64_in _ (by omega)
 by_cases h4 : 4 ≤ b.length
 ·have hn : ((b.length : Int) - 4).toNat = b.length - 4 := by omega
  have hl : (b.take (b.length - 4)).length ≤ 140737488350000 := by rw [List.length_take]; omega
  by_cases he : qR (b.take (b.length - 4)) = b
  ·have ho : opn b = true := by unfold opn; rw [decide_eq_true h4, decide_eq_true he]; rfl
   rw [ho, if_pos rfl]
   have hq : (qR (b.take (b.length - 4)) == b) = true := by rw [he]; exact beq_self_eq_true _
   repeat' (first | refine aF ?_ | refine yc ?_ (ha := by first | exact yI hl | exact P7 (by omega) | assumption) | refine sG (fun _ => ?_) fun _ => ?_ | refine aG ?_ | refine sH (fun _ => ?_) fun _ => ?_ | fail)
   rfl
  ·have ho : opn b = false := by unfold opn; rw [decide_eq_true h4, decide_eq_false he]; rfl
   rw [ho, if_neg (by decide)]
   have hq : (qR (b.take (b.length - 4)) == b) = false := by simpa using he
   repeat' (first | refine aF ?_ | refine yc ?_ (ha := by first | exact yI hl | exact P7 (by omega) | assumption) | refine sG (fun _ => ?_) fun _ => ?_ | refine aG ?_ | refine sH (fun _ => ?_) fun _ => ?_ | fail)
   rfl
 ·have ho : opn b = false := by unfold opn; rw [decide_eq_false h4]; rfl
  rw [ho, if_neg (by decide)]
  repeat' (first | refine aF ?_ | refine yc ?_ | refine sG (fun _ => ?_) fun _ => ?_ | refine aG ?_ | refine sH (fun _ => ?_) fun _ => ?_ | fail)
  rfl
end Go.Abs
namespace Go.Abs
def fr1 (p n w : Int) : Frame := ⟨1, p, n, w, 0, 0, false, 0, 0, [], 0, 0, 0, []⟩
def fr2 (p n c m : Int) (l : List Int) : Frame := ⟨2, p, n, 0, m, 0, false, c, 0, l, 0, 0, 0, []⟩
def fr3 (p n k : Int) (b : Bool) (c o : Int) : Frame := ⟨3, p, n, 0, 0, k, b, c, o, [], 0, 0, 0, []⟩
def fr4 (p n k : Int) (l : List Int) : Frame := ⟨4, p, n, 0, 0, k, false, 0, 0, l, 0, 0, 0, []⟩
def fr5 (p n k f t q : Int) (b : List UInt8) : Frame := ⟨5, p, n, 0, 0, k, false, 0, 0, [], f, t, q, b⟩
def fr0 : Frame := ⟨0, 0, 0, 0, 0, 0, false, 0, 0, [], 0, 0, 0, []⟩
def nJ (l : List Int) : Prop := 1 ≤ l.length ∧ l.length ≤ 6 ∧ ∀ x ∈ l, 0 ≤ x ∧ x ≤ 201
def tD (f : Frame) : Prop := 0 ≤ f.part ∧ f.part < 6 ∧ 0 ≤ f.node ∧ f.node < 12 ∧
 ((f = fr1 f.part f.node f.wait ∧ 0 ≤ f.wait ∧ f.wait ≤ 60000) ∨
  (f = fr2 f.part f.node f.cycle f.mask f.ages ∧ 0 ≤ f.cycle ∧ f.cycle ≤ 1099511627776 ∧ 0 ≤ f.mask ∧ f.mask < 4096 ∧ nJ f.ages) ∨
  (f = fr3 f.part f.node f.link f.flag f.cycle f.offset ∧ 0 ≤ f.link ∧ f.link < 10 ∧ 0 ≤ f.cycle ∧ f.cycle ≤ 1099511627776 ∧ -1099511627776 ≤ f.offset ∧ f.offset ≤ 1099511627776) ∨
  (f = fr4 f.part f.node f.link f.ages ∧ 0 ≤ f.link ∧ f.link < 10 ∧ nJ f.ages) ∨
  (f = fr5 f.part f.node f.link f.frm f.to f.seq f.body ∧ 0 ≤ f.link ∧ f.link < 10 ∧ 0 ≤ f.frm ∧ f.frm < 6 ∧ 0 ≤ f.to ∧ f.to < 6 ∧ 1 ≤ f.seq ∧ f.seq ≤ 2147483648 ∧ f.body.length ≤ 24))
def aG2 (l : List Int) : List UInt8 := be l.length 1 ++ l.flatMap fun x => be x 1
def aNj (b : Bool) : Int := if b then 1 else 0
def aNk (f : Frame) : List UInt8 := be f.kind 1 ++ be f.part 1 ++ be f.node 1 ++
 (if f.kind = 1 then be f.wait 2
  else if f.kind = 2 then be f.cycle 6 ++ be f.mask 2 ++ aG2 f.ages
  else if f.kind = 3 then be f.link 1 ++ be (aNj f.flag) 1 ++ be f.cycle 6 ++ be f.offset 6
  else if f.kind = 4 then be f.link 1 ++ aG2 f.ages
  else be f.link 1 ++ be f.frm 1 ++ be f.to 1 ++ be f.seq 4 ++ be f.body.length 1 ++ f.body)
abbrev Rd (α : Type) := List UInt8 → Except Int (α × List UInt8)
def bR (w : Nat) (lo hi : Int) : Rd Int := fun l =>
 if l.length < w then .error 2 else if lo ≤ cW (l.take w) ∧ cW (l.take w) ≤ hi then .ok (cW (l.take w), l.drop w) else .error 6
def mD (l : List UInt8) : Int := if 128 * 256 ^ (l.length - 1) ≤ cW l then cW l - 256 ^ l.length else cW l
def O7 : Rd Int := fun l =>
 if l.length < 6 then .error 2 else if -1099511627776 ≤ mD (l.take 6) ∧ mD (l.take 6) ≤ 1099511627776 then .ok (mD (l.take 6), l.drop 6) else .error 6
def o6 : Nat → Rd (List Int)
 | 0 => fun l => .ok ([], l)
 | n + 1 => fun l => do
   let (x, l) ← bR 1 0 201 l
   let (r, l) ← o6 n l
   .ok (x :: r, l)
def P4 : Rd (List Int) := fun l => do
 let (n, l) ← bR 1 1 6 l
 o6 n.toNat l
def rdB : Rd (List UInt8) := fun l => do
 let (n, l) ← bR 1 0 24 l
 if l.length < n.toNat then .error 2 else .ok (l.take n.toNat, l.drop n.toNat)
def rdK (k p n : Int) : Rd Frame := fun l =>
 if k = 1 then do
  let (w, l) ← bR 2 0 60000 l
  .ok (fr1 p n w, l)
 else if k = 2 then do
  let (c, l) ← bR 6 0 1099511627776 l
  let (m, l) ← bR 2 0 4095 l
  let (a, l) ← P4 l
  .ok (fr2 p n c m a, l)
 else if k = 3 then do
  let (x, l) ← bR 1 0 9 l
  let (b, l) ← bR 1 0 1 l
  let (c, l) ← bR 6 0 1099511627776 l
  let (o, l) ← O7 l
  .ok (fr3 p n x (b == 1) c o, l)
 else if k = 4 then do
  let (x, l) ← bR 1 0 9 l
  let (a, l) ← P4 l
  .ok (fr4 p n x a, l)
 else do
  let (x, l) ← bR 1 0 9 l
  let (f, l) ← bR 1 0 5 l
  let (t, l) ← bR 1 0 5 l
  let (q, l) ← bR 4 1 2147483648 l
  let (b, l) ← rdB l
  .ok (fr5 p n x f t q b, l)
def rdF : List UInt8 → Except Int Frame := fun l => do
 let (k, l) ← bR 1 1 5 l
 let (p, l) ← bR 1 0 5 l
 let (n, l) ← bR 1 0 11 l
 let (f, l) ← rdK k p n l
 if l.isEmpty then .ok f else .error 3
end Go.Abs
namespace Go.Abs
open Go.Proofs.YtpcnjabfiahhhaaGreatDoor
attribute [local irreducible] enL R RR dF cZ lV dE dG mP apply dB eI aX aZ cO aW fB aP aN cK bN gL cA V.rb V.rbL
abbrev W4 (w : Nat) : Prop := w = 1 ∨ w = 2 ∨ w = 4 ∨ w = 6
def bc (n k : Int) : V := .int .u8 (IntKind.u8.wrap (n.fdiv k))
theorem wH {n k m : Int} (hk : 0 ≤ k) (h : n / k = m) : V.int .u8 ((b8 m).toNat : Int) = bc n k := by
 unfold bc; rw [aMv, Int.fdiv_eq_ediv_of_nonneg _ hk, h]
theorem aEi (c : UInt8) (l : List UInt8) : enL (c :: l) = .int .u8 (c.toNat : Int) :: enL l := by rw [bL]; rfl
theorem be1 (n : Int) : enL (be n 1) = [bc n 1] := by
 simp only [be, List.nil_append, aEi, aL]
 rw [wH (k := 1) (n := n) (by omega) (by omega)]
theorem be2 (n : Int) : enL (be n 2) = [bc n 256, bc n 1] := by
 simp only [be, List.nil_append, List.cons_append, aEi, aL]
 rw [wH (k := 256) (n := n) (by omega) (by omega), wH (k := 1) (n := n) (by omega) (by omega)]
theorem be4 (n : Int) : enL (be n 4) = [bc n 16777216, bc n 65536, bc n 256, bc n 1] := by
 simp only [be, List.nil_append, List.cons_append, aEi, aL]
 rw [wH (k := 16777216) (n := n) (by omega) (by omega), wH (k := 65536) (n := n) (by omega) (by omega), wH (k := 256) (n := n) (by omega) (by omega), wH (k := 1) (n := n) (by omega) (by omega)]
theorem be6 (n : Int) : enL (be n 6) = [bc n 1099511627776, bc n 4294967296, bc n 16777216, bc n 65536, bc n 256, bc n 1] := by
 simp only [be, List.nil_append, List.cons_append, aEi, aL]
 rw [wH (k := 1099511627776) (n := n) (by omega) (by omega), wH (k := 4294967296) (n := n) (by omega) (by omega), wH (k := 16777216) (n := n) (by omega) (by omega), wH (k := 65536) (n := n) (by omega) (by omega), wH (k := 256) (n := n) (by omega) (by omega), wH (k := 1) (n := n) (by omega) (by omega)]
theorem bA5 {o : Option Nat} (n : Int) (w : Nat) : V.sl o (be n w).length (enL (be n w)) = .sl o w (enL (be n w)) := by rw [i4]
theorem aJ7 {s : Option Nat} {H : aB} {w : Int} : Call tab s yC [.int .i64 w] H = some (.bool (decide (1 ≤ w ∧ w ≤ 7)), H) := by
 ((first | refine aC ?_ | skip); refine bE (cf := xF) rfl rfl rfl rfl ?_; unfold xF; dsimp only [aA, Nat.reduceAdd, Nat.zero_add])
 repeat' (first | refine aF ?_ | refine yc ?_ | refine sG (fun _ => ?_) fun _ => ?_ | refine aG ?_ | refine sH (fun _ => ?_) fun _ => ?_ | fail)
 all_goals first | (with_reducible rfl) | (simp only [Option.some.injEq, Prod.mk.injEq, V.bool.injEq, V.tup.injEq, V.int.injEq, List.cons.injEq, and_true, true_and]; first | done | (rw [Bool.eq_iff_iff]; simp only [decide_eq_true_eq, Bool.false_eq_true, Bool.true_eq_false, false_iff, iff_false, true_iff, iff_true, Bool.not_eq_true, decide_eq_false_iff_not, Bool.and_eq_true, Bool.or_eq_true]; omega) | omega)
end Go.Abs
namespace Go.Abs
open Go.Proofs.YtpcnjabfiahhhaaGreatDoor
attribute [local irreducible] enL R RR dF cZ lV dE dG mP apply dB eI aX aZ cO aW fB aP aN cK bN gL cA V.rb V.rbL
theorem bAz {n : Int} : d7 (s0 tab 20) (some 0) 20 (.loop kU) [(0, .int .i64 n), (6, .sl (some 1) 0 []), (7, .int .i64 0)] [] = some (.exit 0, [(0, .int .i64 n), (6, .sl (some 1) 1 [bc n 1]), (7, .int .i64 (-1)), (29, .bool false)], []) := by kernel_rfl
theorem aQa {s : Option Nat} {H : aB} {n : Int} (h0 : 0 ≤ n) (h1 : n < 256) : Call tab s iP [.int .i64 n, .int .i64 1] H = some (.tup [.sl (some 1) 1 [bc n 1], .bool true], H) := by
 have h8 : IntKind.i64.wrap (8 * (1 : Int)) = 8 := by decide
 have h7 : IntKind.u64.wrap (8 : Int) = 8 := by decide
 have hp : IntKind.i64.wrap (1 * (2 : Int) ^ (min (Int.toNat (8 : Int)) IntKind.i64.bits)) = 256 := by decide
 have h9 : IntKind.i64.wrap (1 - 1 : Int) = 0 := by decide
 ((first | refine aC ?_ | skip); refine bE (cf := eW) rfl rfl rfl rfl ?_; unfold eW; dsimp only [aA, Nat.reduceAdd, Nat.zero_add])
 repeat' (first | refine aF ?_ | refine yc ?_ | refine sG (fun _ => ?_) fun _ => ?_ | refine aG ?_ | refine sH (fun _ => ?_) fun _ => ?_ | fail)
 refine pL 20 bAz ?_
 unfold bc
 repeat' (first | refine aF ?_ | refine yc ?_ | refine sG (fun _ => ?_) fun _ => ?_ | refine aG ?_ | refine sH (fun _ => ?_) fun _ => ?_ | fail)
 rfl
theorem bB0 {n : Int} : d7 (s0 tab 20) (some 0) 20 (.loop kU) [(0, .int .i64 n), (6, .sl (some 1) 0 []), (7, .int .i64 1)] [] = some (.exit 0, [(0, .int .i64 n), (6, .sl (some 1) 2 [bc n 256, bc n 1]), (7, .int .i64 (-1)), (29, .bool false)], []) := by kernel_rfl
theorem aQb {s : Option Nat} {H : aB} {n : Int} (h0 : 0 ≤ n) (h1 : n < 65536) : Call tab s iP [.int .i64 n, .int .i64 2] H = some (.tup [.sl (some 1) 2 [bc n 256, bc n 1], .bool true], H) := by
 have h8 : IntKind.i64.wrap (8 * (2 : Int)) = 16 := by decide
 have h7 : IntKind.u64.wrap (16 : Int) = 16 := by decide
 have hp : IntKind.i64.wrap (1 * (2 : Int) ^ (min (Int.toNat (16 : Int)) IntKind.i64.bits)) = 65536 := by decide
 have h9 : IntKind.i64.wrap (2 - 1 : Int) = 1 := by decide
 ((first | refine aC ?_ | skip); refine bE (cf := eW) rfl rfl rfl rfl ?_; unfold eW; dsimp only [aA, Nat.reduceAdd, Nat.zero_add])
 repeat' (first | refine aF ?_ | refine yc ?_ | refine sG (fun _ => ?_) fun _ => ?_ | refine aG ?_ | refine sH (fun _ => ?_) fun _ => ?_ | fail)
 refine pL 20 bB0 ?_
 unfold bc
 repeat' (first | refine aF ?_ | refine yc ?_ | refine sG (fun _ => ?_) fun _ => ?_ | refine aG ?_ | refine sH (fun _ => ?_) fun _ => ?_ | fail)
 rfl
theorem bB1 {n : Int} : d7 (s0 tab 20) (some 0) 20 (.loop kU) [(0, .int .i64 n), (6, .sl (some 1) 0 []), (7, .int .i64 3)] [] = some (.exit 0, [(0, .int .i64 n), (6, .sl (some 1) 4 [bc n 16777216, bc n 65536, bc n 256, bc n 1]), (7, .int .i64 (-1)), (29, .bool false)], []) := by kernel_rfl
theorem aQc {s : Option Nat} {H : aB} {n : Int} (h0 : 0 ≤ n) (h1 : n < 4294967296) : Call tab s iP [.int .i64 n, .int .i64 4] H = some (.tup [.sl (some 1) 4 [bc n 16777216, bc n 65536, bc n 256, bc n 1], .bool true], H) := by
 have h8 : IntKind.i64.wrap (8 * (4 : Int)) = 32 := by decide
 have h7 : IntKind.u64.wrap (32 : Int) = 32 := by decide
 have hp : IntKind.i64.wrap (1 * (2 : Int) ^ (min (Int.toNat (32 : Int)) IntKind.i64.bits)) = 4294967296 := by decide
 have h9 : IntKind.i64.wrap (4 - 1 : Int) = 3 := by decide
 ((first | refine aC ?_ | skip); refine bE (cf := eW) rfl rfl rfl rfl ?_; unfold eW; dsimp only [aA, Nat.reduceAdd, Nat.zero_add])
 repeat' (first | refine aF ?_ | refine yc ?_ | refine sG (fun _ => ?_) fun _ => ?_ | refine aG ?_ | refine sH (fun _ => ?_) fun _ => ?_ | fail)
 refine pL 20 bB1 ?_
 unfold bc
 repeat' (first | refine aF ?_ | refine yc ?_ | refine sG (fun _ => ?_) fun _ => ?_ | refine aG ?_ | refine sH (fun _ => ?_) fun _ => ?_ | fail)
 rfl
theorem bB2 {n : Int} : d7 (s0 tab 20) (some 0) 20 (.loop kU) [(0, .int .i64 n), (6, .sl (some 1) 0 []), (7, .int .i64 5)] [] = some (.exit 0, [(0, .int .i64 n), (6, .sl (some 1) 6 [bc n 1099511627776, bc n 4294967296, bc n 16777216, bc n 65536, bc n 256, bc n 1]), (7, .int .i64 (-1)), (29, .bool false)], []) := by kernel_rfl
theorem aQd {s : Option Nat} {H : aB} {n : Int} (h0 : 0 ≤ n) (h1 : n < 281474976710656) : Call tab s iP [.int .i64 n, .int .i64 6] H = some (.tup [.sl (some 1) 6 [bc n 1099511627776, bc n 4294967296, bc n 16777216, bc n 65536, bc n 256, bc n 1], .bool true], H) := by
 have h8 : IntKind.i64.wrap (8 * (6 : Int)) = 48 := by decide
 have h7 : IntKind.u64.wrap (48 : Int) = 48 := by decide
 have hp : IntKind.i64.wrap (1 * (2 : Int) ^ (min (Int.toNat (48 : Int)) IntKind.i64.bits)) = 281474976710656 := by decide
 have h9 : IntKind.i64.wrap (6 - 1 : Int) = 5 := by decide
 ((first | refine aC ?_ | skip); refine bE (cf := eW) rfl rfl rfl rfl ?_; unfold eW; dsimp only [aA, Nat.reduceAdd, Nat.zero_add])
 repeat' (first | refine aF ?_ | refine yc ?_ | refine sG (fun _ => ?_) fun _ => ?_ | refine aG ?_ | refine sH (fun _ => ?_) fun _ => ?_ | fail)
 refine pL 20 bB2 ?_
 unfold bc
 repeat' (first | refine aF ?_ | refine yc ?_ | refine sG (fun _ => ?_) fun _ => ?_ | refine aG ?_ | refine sH (fun _ => ?_) fun _ => ?_ | fail)
 rfl
theorem Y3 {s : Option Nat} {H : aB} {n : Int} {w : Nat} (hw : W4 w) (h0 : 0 ≤ n) (h1 : n < 256 ^ w) : Call tab s iP [.int .i64 n, .int .i64 (w : Int)] H = some (.tup [.sl (some 1) (be n w).length (enL (be n w)), .bool true], H) := by
 rw [bA5]
 rcases hw with rfl | rfl | rfl | rfl
 ·rw [be1]; exact aQa h0 (by omega)
 ·rw [be2]; exact aQb h0 (by omega)
 ·rw [be4]; exact aQc h0 (by omega)
 ·rw [be6]; exact aQd h0 (by omega)
theorem aKh {s : Option Nat} {H : aB} {n : Int} (h0 : -140737488355328 ≤ n) (h1 : n < 140737488355328) : Call tab s vE [.int .i64 n, .int .i64 6] H = some (.tup [.sl (some 1) (be n 6).length (enL (be n 6)), .bool true], H) := by
 have h8 : IntKind.i64.wrap (8 * (6 : Int)) = 48 := by decide
 have h6 : IntKind.i64.wrap (48 - 1 : Int) = 47 := by decide
 have h7 : IntKind.u64.wrap (48 : Int) = 48 := by decide
 have h5 : IntKind.u64.wrap (47 : Int) = 47 := by decide
 have hp : IntKind.i64.wrap (1 * (2 : Int) ^ (min (Int.toNat (47 : Int)) IntKind.i64.bits)) = 140737488355328 := by decide
 have hq : IntKind.i64.wrap (1 * (2 : Int) ^ (min (Int.toNat (48 : Int)) IntKind.i64.bits)) = 281474976710656 := by decide
 have h9 : IntKind.i64.wrap (0 - 140737488355328 : Int) = -140737488355328 := by decide
 ((first | refine aC ?_ | skip); refine bE (cf := uR) rfl rfl rfl rfl ?_; unfold uR; dsimp only [aA, Nat.reduceAdd, Nat.zero_add])
 by_cases hn : n < 0
 ·have e : be (n + 281474976710656) 6 = be n 6 := aUr n 6 1
  have hs : IntKind.i64.wrap (n + 281474976710656) = n + 281474976710656 := IntWalk.i64_in _ (by omega)
  rw [← e]
  repeat' (first | refine aF ?_ | refine yc ?_ (ha := by first | exact Y3 (w := 6) (by decide) (by omega) (by omega) | assumption) | refine sG (fun _ => ?_) fun _ => ?_ | refine aG ?_ | refine sH (fun _ => ?_) fun _ => ?_ | fail)
  rfl
 ·repeat' (first | refine aF ?_ | refine yc ?_ (ha := by first | exact Y3 (w := 6) (by decide) (by omega) (by omega) | assumption) | refine sG (fun _ => ?_) fun _ => ?_ | refine aG ?_ | refine sH (fun _ => ?_) fun _ => ?_ | fail)
  rfl
theorem pM {s : Option Nat} {H : aB} {b : List UInt8} {n : Int} {w : Nat} (hw : W4 w) (h0 : 0 ≤ n) (h1 : n < 256 ^ w) (hb : b.length ≤ 1000000) : Call tab s aV [.sl (some 1) b.length (enL b), .int .i64 n, .int .i64 (w : Int)] H = some (.sl (some 1) (b ++ be n w).length (enL (b ++ be n w)), H) := by
 have hl : (be n w).length ≤ 6 := by rw [i4]; rcases hw with rfl | rfl | rfl | rfl <;> decide
 ((first | refine aC ?_ | skip); refine bE (cf := y4) rfl rfl rfl rfl ?_; unfold y4; dsimp only [aA, Nat.reduceAdd, Nat.zero_add])
 repeat' (first | refine aF ?_ | refine yc ?_ (ha := by first | exact Y3 hw h0 h1 | assumption) | refine sG (fun _ => ?_) fun _ => ?_ | refine aG ?_ | refine sH (fun _ => ?_) fun _ => ?_ | fail)
 rfl
theorem C1 {s : Option Nat} {H : aB} {n : Int} {w : Nat} (hw : W4 w) (h0 : 0 ≤ n) (h1 : n < 256 ^ w) : Call tab s aV [.sl (some 1) 0 [], .int .i64 n, .int .i64 (w : Int)] H = some (.sl (some 1) (be n w).length (enL (be n w)), H) := by
 have := pM (s := s) (H := H) (b := []) hw h0 h1 (by decide)
 rwa [aL, List.nil_append] at this
def vV (l : List Int) : List UInt8 := l.flatMap fun x => be x 1
theorem aCg (l : List Int) : (vV l).length = l.length := by
 unfold vV
 induction l with
 | nil => rfl
 | cons x l ih => rw [List.flatMap_cons, List.length_append, i4, ih, List.length_cons]; omega
theorem aH8 {l : List Int} {i : Nat} {x : Int} (h : l[i]? = some x) : vV (l.take (i + 1)) = vV (l.take i) ++ be x 1 := by
 unfold vV
 rw [← kO h, List.flatMap_append]; simp
theorem Y4 {s : Option Nat} {H : aB} {b : List UInt8} {l : List Int} (hl : nJ l) (hb : b.length ≤ 1000) : Call tab s lD [.sl (some 1) b.length (enL b), .sl none l.length (enL l)] H = some (.sl (some 1) (b ++ aG2 l).length (enL (b ++ aG2 l)), H) := by
 obtain ⟨l1, l2, l3⟩ := hl
 have e1 : ∀ n : Int, (be n 1).length = 1 := fun n => i4 n 1
 have e2 := e1 l.length
 show _ = some (V.sl (some 1) (b ++ (be l.length 1 ++ vV l)).length (enL (b ++ (be l.length 1 ++ vV l))), H)
 rw [← List.append_assoc]
 ((first | refine aC ?_ | skip); refine bE (cf := sI) rfl rfl rfl rfl ?_; unfold sI; dsimp only [aA, Nat.reduceAdd, Nat.zero_add])
 repeat' (first | refine aF ?_ | refine yc ?_ (ha := by first | exact pM (w := 1) (by decide) (by omega) (by omega) (by omega) | assumption) | refine sG (fun _ => ?_) fun _ => ?_ | refine aG ?_ | refine sH (fun _ => ?_) fun _ => ?_ | fail)
 refine oK l.length (fun i (_ : Unit) => [(0, V.sl (some 1) (b ++ be l.length 1 ++ vV (l.take i)).length (enL (b ++ be l.length 1 ++ vV (l.take i)))), (5, .int .i64 i)]) (fun _ _ => []) (fun _ _ => True) ?_ ?_ () trivial (by simp only [List.take_zero, vV, List.flatMap_nil, List.append_nil]; rfl)
 ·intro i _ hi _ ih
  obtain ⟨x, hx⟩ := oZ hi
  have hx2 := l3 x (List.mem_of_getElem? hx)
  rw [aH8 hx, ← List.append_assoc] at ih
  have e3 : (vV (l.take i)).length ≤ 6 := by rw [aCg, List.length_take]; omega
  generalize vV (l.take i) = q at *
  have hw : IntKind.i64.wrap ((i : Int) + 1) = ((i + 1 : Nat) : Int) := IntWalk.i64_in _ (by omega)
  have hil : (i : Int) < (l.length : Int) := by omega
  refine aJ (by dsimp only [eT, lk, Nat.reduceBEq, cond_true, cond_false, Option.getD_some, Option.getD_none]; first | done | exact rfl) ?_; refine aE ?_
  unfold pK
  repeat' (first | refine aF ?_ | refine yc ?_ (ha := by first | exact pM (w := 1) (by decide) (by omega) (by omega) (by simp only [List.length_append]; omega) | assumption) | refine sG (fun _ => ?_) fun _ => ?_ | refine aG ?_ | refine sH (fun _ => ?_) fun _ => ?_ | fail)
  refine cV ?_
  exact ih () trivial
 ·intro _ _
  rw [List.take_length]
  refine aJ (by dsimp only [eT, lk, Nat.reduceBEq, cond_true, cond_false, Option.getD_some, Option.getD_none]; first | done | exact rfl) ?_; refine aE ?_
  unfold pK
  repeat' (first | refine aF ?_ | refine yc ?_ | refine sG (fun _ => ?_) fun _ => ?_ | refine aG ?_ | refine sH (fun _ => ?_) fun _ => ?_ | fail)
  rfl
end Go.Abs
namespace Go.Abs
open Go.Proofs.YtpcnjabfiahhhaaGreatDoor
attribute [local irreducible] enL R RR dF cZ lV dE dG mP apply dB eI aX aZ cO aW fB aP aN cK bN gL cA V.rb V.rbL
theorem sM {H : aB} {id : Nat} {a b : List V} (h : H[id]? = some a) : (H.set id b)[id]? = some b := by
 rw [List.getElem?_set_self (List.getElem?_eq_some_iff.1 h).1]
theorem aC6 {H : aB} {id : Nat} {a : List V} (h : H[id]? = some a) : H.set id a = H := by
 obtain ⟨hl, rfl⟩ := List.getElem?_eq_some_iff.1 h
 exact List.set_getElem_self hl
end Go.Abs
