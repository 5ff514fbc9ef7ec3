/- A part of the proof of RowSpeakOffers, RowSpeakMessages: lemmas alone, without conditions. -/
import Derived.Test.YtpcnjabfiahhhaaGreatDoorK23
import Derived.KernelRfl
set_option linter.all false
namespace Go.Abs
def fr1 (p n w : Int) : Frame := ⟨1, p, n, w, 0, 0, false, 0, 0, [], 0, 0, 0, []⟩
def fr2 (p n c m : Int) (l : List Int) : Frame := ⟨2, p, n, 0, m, 0, false, c, 0, l, 0, 0, 0, []⟩
def qQ (p n k : Int) (b : Bool) (c o : Int) : Frame := ⟨3, p, n, 0, 0, k, b, c, o, [], 0, 0, 0, []⟩
def oZ (p n k : Int) (l : List Int) : Frame := ⟨4, p, n, 0, 0, k, false, 0, 0, l, 0, 0, 0, []⟩
def C7 (p n k f t q : Int) (b : List UInt8) : Frame := ⟨5, p, n, 0, 0, k, false, 0, 0, [], f, t, q, b⟩
def fr0 : Frame := ⟨0, 0, 0, 0, 0, 0, false, 0, 0, [], 0, 0, 0, []⟩
def fI (l : List Int) : Prop := 1 ≤ l.length ∧ l.length ≤ 6 ∧ ∀ x ∈ l, 0 ≤ x ∧ x ≤ 201
def jR (f : Frame) : Prop := 0 ≤ f.part ∧ f.part < 6 ∧ 0 ≤ f.node ∧ f.node < 12 ∧
 ((f = fr1 f.part f.node f.wait ∧ 0 ≤ f.wait ∧ f.wait ≤ 60000) ∨
  (f = fr2 f.part f.node f.cycle f.mask f.ages ∧ 0 ≤ f.cycle ∧ f.cycle ≤ 1099511627776 ∧ 0 ≤ f.mask ∧ f.mask < 4096 ∧ fI f.ages) ∨
  (f = qQ f.part f.node f.link f.flag f.cycle f.offset ∧ 0 ≤ f.link ∧ f.link < 10 ∧ 0 ≤ f.cycle ∧ f.cycle ≤ 1099511627776 ∧ -1099511627776 ≤ f.offset ∧ f.offset ≤ 1099511627776) ∨
  (f = oZ f.part f.node f.link f.ages ∧ 0 ≤ f.link ∧ f.link < 10 ∧ fI f.ages) ∨
  (f = C7 f.part f.node f.link f.frm f.to f.seq f.body ∧ 0 ≤ f.link ∧ f.link < 10 ∧ 0 ≤ f.frm ∧ f.frm < 6 ∧ 0 ≤ f.to ∧ f.to < 6 ∧ 1 ≤ f.seq ∧ f.seq ≤ 2147483648 ∧ f.body.length ≤ 24))
def aBv (l : List Int) : List UInt8 := be l.length 1 ++ l.flatMap fun x => be x 1
def aDt (b : Bool) : Int := if b then 1 else 0
def aDu (f : Frame) : List UInt8 := be f.kind 1 ++ be f.part 1 ++ be f.node 1 ++
 (if f.kind = 1 then be f.wait 2
  else if f.kind = 2 then be f.cycle 6 ++ be f.mask 2 ++ aBv f.ages
  else if f.kind = 3 then be f.link 1 ++ be (aDt f.flag) 1 ++ be f.cycle 6 ++ be f.offset 6
  else if f.kind = 4 then be f.link 1 ++ aBv f.ages
  else be f.link 1 ++ be f.frm 1 ++ be f.to 1 ++ be f.seq 4 ++ be f.body.length 1 ++ f.body)
end Go.Abs
namespace Go.Abs
open Go.Proofs.YtpcnjabfiahhhaaGreatDoor
attribute [local irreducible] enL R RR fP fB pX fK fQ pU apply fT gQ bW bZ eJ bR iL bG bD eC cR kD dO V.rb V.rbL
abbrev W4 (w : Nat) : Prop := w = 1 ∨ w = 2 ∨ w = 4 ∨ w = 6
def bc (n k : Int) : V := .int .u8 (IntKind.u8.wrap (n.fdiv k))
theorem vL {n k m : Int} (hk : 0 ≤ k) (h : n / k = m) : V.int .u8 ((b8 m).toNat : Int) = bc n k := by
 unfold bc; rw [aMp, Int.fdiv_eq_ediv_of_nonneg _ hk, h]
theorem aEb (c : UInt8) (l : List UInt8) : enL (c :: l) = .int .u8 (c.toNat : Int) :: enL l := by rw [bT]; rfl
theorem be1 (n : Int) : enL (be n 1) = [bc n 1] := by
 simp only [be, List.nil_append, aEb, aO]
 rw [vL (k := 1) (n := n) (by omega) (by omega)]
theorem be2 (n : Int) : enL (be n 2) = [bc n 256, bc n 1] := by
 simp only [be, List.nil_append, List.cons_append, aEb, aO]
 rw [vL (k := 256) (n := n) (by omega) (by omega), vL (k := 1) (n := n) (by omega) (by omega)]
theorem be4 (n : Int) : enL (be n 4) = [bc n 16777216, bc n 65536, bc n 256, bc n 1] := by
 simp only [be, List.nil_append, List.cons_append, aEb, aO]
 rw [vL (k := 16777216) (n := n) (by omega) (by omega), vL (k := 65536) (n := n) (by omega) (by omega), vL (k := 256) (n := n) (by omega) (by omega), vL (k := 1) (n := n) (by omega) (by omega)]
theorem be6 (n : Int) : enL (be n 6) = [bc n 1099511627776, bc n 4294967296, bc n 16777216, bc n 65536, bc n 256, bc n 1] := by
 simp only [be, List.nil_append, List.cons_append, aEb, aO]
 rw [vL (k := 1099511627776) (n := n) (by omega) (by omega), vL (k := 4294967296) (n := n) (by omega) (by omega), vL (k := 16777216) (n := n) (by omega) (by omega), vL (k := 65536) (n := n) (by omega) (by omega), vL (k := 256) (n := n) (by omega) (by omega), vL (k := 1) (n := n) (by omega) (by omega)]
theorem bD3 {s : Option Nat} {H : aC} {n : Int} : Call tab s mT [.int .i64 n, .int .i64 1] H = some (.sl none 1 [bc n 1], H) := aD.2 ⟨20, by kernel_rfl⟩
theorem bD4 {s : Option Nat} {H : aC} {n : Int} : Call tab s mT [.int .i64 n, .int .i64 2] H = some (.sl none 2 [bc n 256, bc n 1], H) := aD.2 ⟨20, by kernel_rfl⟩
theorem bD5 {s : Option Nat} {H : aC} {n : Int} : Call tab s mT [.int .i64 n, .int .i64 4] H = some (.sl none 4 [bc n 16777216, bc n 65536, bc n 256, bc n 1], H) := aD.2 ⟨20, by kernel_rfl⟩
theorem bD6 {s : Option Nat} {H : aC} {n : Int} : Call tab s mT [.int .i64 n, .int .i64 6] H = some (.sl none 6 [bc n 1099511627776, bc n 4294967296, bc n 16777216, bc n 65536, bc n 256, bc n 1], H) := aD.2 ⟨20, by kernel_rfl⟩
theorem aTx {o : Option Nat} (n : Int) (w : Nat) : V.sl o (be n w).length (enL (be n w)) = .sl o w (enL (be n w)) := by rw [qM]
theorem aJm {s : Option Nat} {H : aC} {n : Int} {w : Nat} (hw : W4 w) : Call tab s mT [.int .i64 n, .int .i64 (w : Int)] H = some (.sl none (be n w).length (enL (be n w)), H) := by
 rw [aTx]
 rcases hw with rfl | rfl | rfl | rfl
 ·rw [be1]; exact bD3
 ·rw [be2]; exact bD4
 ·rw [be4]; exact bD5
 ·rw [be6]; exact bD6
theorem M1 {s : Option Nat} {H : aC} {w : Int} : Call tab s vZ [.int .i64 w] H = some (.bool (decide (1 ≤ w ∧ w ≤ 7)), H) := by
 ((first | refine aJ ?_ | skip); refine bX (cf := rM) rfl rfl rfl rfl ?_; unfold rM; dsimp only [aB, Nat.reduceAdd, Nat.zero_add])
 repeat' (first | refine aS ?_ | refine yc ?_ | (show zn; refine aA ?_) | (show gA; first | refine aH (fun _ => ?_) fun _ => ?_ | refine gc_E (fun _ => ?_) fun _ => ?_ | refine gc_N (fun _ => ?_) fun _ => ?_ | refine aT ?_ | refine gc_B (fun _ => ?_) fun _ => ?_) | fail)
 all_goals first | (with_reducible rfl) | (simp only [Option.some.injEq, Prod.mk.injEq, V.bool.injEq, V.tup.injEq, V.int.injEq, List.cons.injEq, and_true, true_and]; first | done | (rw [Bool.eq_iff_iff]; simp only [decide_eq_true_eq, Bool.false_eq_true, Bool.true_eq_false, false_iff, iff_false, true_iff, iff_true, Bool.not_eq_true, decide_eq_false_iff_not, Bool.and_eq_true, Bool.or_eq_true]; omega) | omega)
theorem aX6 {k : IntKind} {w : Nat} (hw : W4 w) (hk : k = .i64 ∨ k = .u64) : IntKind.i64.wrap (1 * (2 : Int) ^ (min (Int.toNat (8 * (w : Int))) IntKind.i64.bits)) = 256 ^ w := by
 rcases hw with rfl | rfl | rfl | rfl <;> decide
theorem aJn {s : Option Nat} {H : aC} {n : Int} {w : Nat} (hw : W4 w) (h0 : 0 ≤ n) (h1 : n < 256 ^ w) : Call tab s r7 [.int .i64 n, .int .i64 (w : Int)] H = some (.tup [.sl none (be n w).length (enL (be n w)), .bool true], H) := by
 have hp := aX6 (k := .i64) hw (.inl rfl)
 have h8 : IntKind.i64.wrap (8 * (w : Int)) = 8 * (w : Int) := IntWalk.i64_in _ (by rcases hw with rfl | rfl | rfl | rfl <;> decide)
 have hr : decide (1 ≤ (w : Int) ∧ (w : Int) ≤ 7) = true := by rcases hw with rfl | rfl | rfl | rfl <;> decide
 have h9 : 0 ≤ 8 * (w : Int) := by omega
 have hn : ¬ (256 : Int) ^ w ≤ n := by omega
 ((first | refine aJ ?_ | skip); refine bX (cf := rK) rfl rfl rfl rfl ?_; unfold rK; dsimp only [aB, Nat.reduceAdd, Nat.zero_add])
 repeat' (first | refine aS ?_ | refine yc ?_ (ha := by first | exact M1 | exact aJm hw | assumption) | (show zn; refine aA ?_ (ha := by first | exact M1 | exact aJm hw | assumption)) | (show gA; first | refine aH (fun _ => ?_) fun _ => ?_ | refine gc_E (fun _ => ?_) fun _ => ?_ | refine gc_N (fun _ => ?_) fun _ => ?_ | refine aT ?_ | refine gc_B (fun _ => ?_) fun _ => ?_) | fail)
 rfl
theorem aGx {s : Option Nat} {H : aC} {n : Int} (h0 : -140737488355328 ≤ n) (h1 : n < 140737488355328) : Call tab s g8 [.int .i64 n, .int .i64 6] H = some (.tup [.sl none (be n 6).length (enL (be n 6)), .bool true], H) := by
 have hp : IntKind.i64.wrap (1 * (2 : Int) ^ (min (Int.toNat (47 : Int)) IntKind.i64.bits)) = 140737488355328 := by decide
 have h8 : IntKind.i64.wrap (8 * (6 : Int)) = 48 := by decide
 have h9 : IntKind.i64.wrap (48 - 1 : Int) = 47 := by decide
 have h7 : IntKind.i64.wrap (0 - 140737488355328 : Int) = -140737488355328 := by decide
 have hr : decide (1 ≤ (6 : Int) ∧ (6 : Int) ≤ 7) = true := by decide
 ((first | refine aJ ?_ | skip); refine bX (cf := pW) rfl rfl rfl rfl ?_; unfold pW; dsimp only [aB, Nat.reduceAdd, Nat.zero_add])
 repeat' (first | refine aS ?_ | refine yc ?_ (ha := by first | exact M1 | exact aJm (w := 6) (by decide) | assumption) | (show zn; refine aA ?_ (ha := by first | exact M1 | exact aJm (w := 6) (by decide) | assumption)) | (show gA; first | refine aH (fun _ => ?_) fun _ => ?_ | refine gc_E (fun _ => ?_) fun _ => ?_ | refine gc_N (fun _ => ?_) fun _ => ?_ | refine aT ?_ | refine gc_B (fun _ => ?_) fun _ => ?_) | fail)
 rfl
end Go.Abs
namespace Go.Abs
open Go.Proofs.YtpcnjabfiahhhaaGreatDoor
attribute [local irreducible] enL R RR fP fB pX fK fQ pU apply fT gQ bW bZ eJ bR iL bG bD eC cR kD dO V.rb V.rbL
theorem bCi {n : Int} : zU (z0 tab 20) (some 0) 20 (.loop lD) [(0, .int .i64 n), (6, .sl (some 1) 0 []), (7, .int .i64 0)] [] = some (.exit 0, [(0, .int .i64 n), (6, .sl (some 1) 1 [bc n 1]), (7, .int .i64 (-1)), (29, .bool false)], []) := by kernel_rfl
theorem aS6 {s : Option Nat} {H : aC} {n : Int} (h0 : 0 ≤ n) (h1 : n < 256) : Call tab s jI [.int .i64 n, .int .i64 1] H = some (.tup [.sl (some 1) 1 [bc n 1], .bool true], H) := by
 have h8 : IntKind.i64.wrap (8 * (1 : Int)) = 8 := by decide
 have h7 : IntKind.u64.wrap (8 : Int) = 8 := by decide
 have hp : IntKind.i64.wrap (1 * (2 : Int) ^ (min (Int.toNat (8 : Int)) IntKind.i64.bits)) = 256 := by decide
 have h9 : IntKind.i64.wrap (1 - 1 : Int) = 0 := by decide
 ((first | refine aJ ?_ | skip); refine bX (cf := eT) rfl rfl rfl rfl ?_; unfold eT; dsimp only [aB, Nat.reduceAdd, Nat.zero_add])
 repeat' (first | refine aS ?_ | refine yc ?_ | (show zn; refine aA ?_) | (show gA; first | refine aH (fun _ => ?_) fun _ => ?_ | refine gc_E (fun _ => ?_) fun _ => ?_ | refine gc_N (fun _ => ?_) fun _ => ?_ | refine aT ?_ | refine gc_B (fun _ => ?_) fun _ => ?_) | fail)
 refine oV 20 bCi ?_
 unfold bc
 repeat' (first | refine aS ?_ | refine yc ?_ | (show zn; refine aA ?_) | (show gA; first | refine aH (fun _ => ?_) fun _ => ?_ | refine gc_E (fun _ => ?_) fun _ => ?_ | refine gc_N (fun _ => ?_) fun _ => ?_ | refine aT ?_ | refine gc_B (fun _ => ?_) fun _ => ?_) | fail)
 rfl
theorem bCj {n : Int} : zU (z0 tab 20) (some 0) 20 (.loop lD) [(0, .int .i64 n), (6, .sl (some 1) 0 []), (7, .int .i64 1)] [] = some (.exit 0, [(0, .int .i64 n), (6, .sl (some 1) 2 [bc n 256, bc n 1]), (7, .int .i64 (-1)), (29, .bool false)], []) := by kernel_rfl
theorem aS7 {s : Option Nat} {H : aC} {n : Int} (h0 : 0 ≤ n) (h1 : n < 65536) : Call tab s jI [.int .i64 n, .int .i64 2] H = some (.tup [.sl (some 1) 2 [bc n 256, bc n 1], .bool true], H) := by
 have h8 : IntKind.i64.wrap (8 * (2 : Int)) = 16 := by decide
 have h7 : IntKind.u64.wrap (16 : Int) = 16 := by decide
 have hp : IntKind.i64.wrap (1 * (2 : Int) ^ (min (Int.toNat (16 : Int)) IntKind.i64.bits)) = 65536 := by decide
 have h9 : IntKind.i64.wrap (2 - 1 : Int) = 1 := by decide
 ((first | refine aJ ?_ | skip); refine bX (cf := eT) rfl rfl rfl rfl ?_; unfold eT; dsimp only [aB, Nat.reduceAdd, Nat.zero_add])
 repeat' (first | refine aS ?_ | refine yc ?_ | (show zn; refine aA ?_) | (show gA; first | refine aH (fun _ => ?_) fun _ => ?_ | refine gc_E (fun _ => ?_) fun _ => ?_ | refine gc_N (fun _ => ?_) fun _ => ?_ | refine aT ?_ | refine gc_B (fun _ => ?_) fun _ => ?_) | fail)
 refine oV 20 bCj ?_
 unfold bc
 repeat' (first | refine aS ?_ | refine yc ?_ | (show zn; refine aA ?_) | (show gA; first | refine aH (fun _ => ?_) fun _ => ?_ | refine gc_E (fun _ => ?_) fun _ => ?_ | refine gc_N (fun _ => ?_) fun _ => ?_ | refine aT ?_ | refine gc_B (fun _ => ?_) fun _ => ?_) | fail)
 rfl
theorem bCk {n : Int} : zU (z0 tab 20) (some 0) 20 (.loop lD) [(0, .int .i64 n), (6, .sl (some 1) 0 []), (7, .int .i64 3)] [] = some (.exit 0, [(0, .int .i64 n), (6, .sl (some 1) 4 [bc n 16777216, bc n 65536, bc n 256, bc n 1]), (7, .int .i64 (-1)), (29, .bool false)], []) := by kernel_rfl
theorem aS8 {s : Option Nat} {H : aC} {n : Int} (h0 : 0 ≤ n) (h1 : n < 4294967296) : Call tab s jI [.int .i64 n, .int .i64 4] H = some (.tup [.sl (some 1) 4 [bc n 16777216, bc n 65536, bc n 256, bc n 1], .bool true], H) := by
 have h8 : IntKind.i64.wrap (8 * (4 : Int)) = 32 := by decide
 have h7 : IntKind.u64.wrap (32 : Int) = 32 := by decide
 have hp : IntKind.i64.wrap (1 * (2 : Int) ^ (min (Int.toNat (32 : Int)) IntKind.i64.bits)) = 4294967296 := by decide
 have h9 : IntKind.i64.wrap (4 - 1 : Int) = 3 := by decide
 ((first | refine aJ ?_ | skip); refine bX (cf := eT) rfl rfl rfl rfl ?_; unfold eT; dsimp only [aB, Nat.reduceAdd, Nat.zero_add])
 repeat' (first | refine aS ?_ | refine yc ?_ | (show zn; refine aA ?_) | (show gA; first | refine aH (fun _ => ?_) fun _ => ?_ | refine gc_E (fun _ => ?_) fun _ => ?_ | refine gc_N (fun _ => ?_) fun _ => ?_ | refine aT ?_ | refine gc_B (fun _ => ?_) fun _ => ?_) | fail)
 refine oV 20 bCk ?_
 unfold bc
 repeat' (first | refine aS ?_ | refine yc ?_ | (show zn; refine aA ?_) | (show gA; first | refine aH (fun _ => ?_) fun _ => ?_ | refine gc_E (fun _ => ?_) fun _ => ?_ | refine gc_N (fun _ => ?_) fun _ => ?_ | refine aT ?_ | refine gc_B (fun _ => ?_) fun _ => ?_) | fail)
 rfl
theorem bCl {n : Int} : zU (z0 tab 20) (some 0) 20 (.loop lD) [(0, .int .i64 n), (6, .sl (some 1) 0 []), (7, .int .i64 5)] [] = some (.exit 0, [(0, .int .i64 n), (6, .sl (some 1) 6 [bc n 1099511627776, bc n 4294967296, bc n 16777216, bc n 65536, bc n 256, bc n 1]), (7, .int .i64 (-1)), (29, .bool false)], []) := by kernel_rfl
theorem aS9 {s : Option Nat} {H : aC} {n : Int} (h0 : 0 ≤ n) (h1 : n < 281474976710656) : Call tab s jI [.int .i64 n, .int .i64 6] H = some (.tup [.sl (some 1) 6 [bc n 1099511627776, bc n 4294967296, bc n 16777216, bc n 65536, bc n 256, bc n 1], .bool true], H) := by
 have h8 : IntKind.i64.wrap (8 * (6 : Int)) = 48 := by decide
 have h7 : IntKind.u64.wrap (48 : Int) = 48 := by decide
 have hp : IntKind.i64.wrap (1 * (2 : Int) ^ (min (Int.toNat (48 : Int)) IntKind.i64.bits)) = 281474976710656 := by decide
 have h9 : IntKind.i64.wrap (6 - 1 : Int) = 5 := by decide
 ((first | refine aJ ?_ | skip); refine bX (cf := eT) rfl rfl rfl rfl ?_; unfold eT; dsimp only [aB, Nat.reduceAdd, Nat.zero_add])
 repeat' (first | refine aS ?_ | refine yc ?_ | (show zn; refine aA ?_) | (show gA; first | refine aH (fun _ => ?_) fun _ => ?_ | refine gc_E (fun _ => ?_) fun _ => ?_ | refine gc_N (fun _ => ?_) fun _ => ?_ | refine aT ?_ | refine gc_B (fun _ => ?_) fun _ => ?_) | fail)
 refine oV 20 bCl ?_
 unfold bc
 repeat' (first | refine aS ?_ | refine yc ?_ | (show zn; refine aA ?_) | (show gA; first | refine aH (fun _ => ?_) fun _ => ?_ | refine gc_E (fun _ => ?_) fun _ => ?_ | refine gc_N (fun _ => ?_) fun _ => ?_ | refine aT ?_ | refine gc_B (fun _ => ?_) fun _ => ?_) | fail)
 rfl
theorem vD {s : Option Nat} {H : aC} {n : Int} {w : Nat} (hw : W4 w) (h0 : 0 ≤ n) (h1 : n < 256 ^ w) : Call tab s jI [.int .i64 n, .int .i64 (w : Int)] H = some (.tup [.sl (some 1) (be n w).length (enL (be n w)), .bool true], H) := by
 rw [aTx]
 rcases hw with rfl | rfl | rfl | rfl
 ·rw [be1]; exact aS6 h0 (by omega)
 ·rw [be2]; exact aS7 h0 (by omega)
 ·rw [be4]; exact aS8 h0 (by omega)
 ·rw [be6]; exact aS9 h0 (by omega)
theorem aBs {s : Option Nat} {H : aC} {n : Int} (h0 : -140737488355328 ≤ n) (h1 : n < 140737488355328) : Call tab s pE [.int .i64 n, .int .i64 6] H = some (.tup [.sl (some 1) (be n 6).length (enL (be n 6)), .bool true], H) := by
 have h8 : IntKind.i64.wrap (8 * (6 : Int)) = 48 := by decide
 have h6 : IntKind.i64.wrap (48 - 1 : Int) = 47 := by decide
 have h7 : IntKind.u64.wrap (48 : Int) = 48 := by decide
 have h5 : IntKind.u64.wrap (47 : Int) = 47 := by decide
 have hp : IntKind.i64.wrap (1 * (2 : Int) ^ (min (Int.toNat (47 : Int)) IntKind.i64.bits)) = 140737488355328 := by decide
 have hq : IntKind.i64.wrap (1 * (2 : Int) ^ (min (Int.toNat (48 : Int)) IntKind.i64.bits)) = 281474976710656 := by decide
 have h9 : IntKind.i64.wrap (0 - 140737488355328 : Int) = -140737488355328 := by decide
 ((first | refine aJ ?_ | skip); refine bX (cf := pP) rfl rfl rfl rfl ?_; unfold pP; dsimp only [aB, Nat.reduceAdd, Nat.zero_add])
 by_cases hn : n < 0
 ·have e : be (n + 281474976710656) 6 = be n 6 := aU9 n 6 1
  have hs : IntKind.i64.wrap (n + 281474976710656) = n + 281474976710656 := IntWalk.i64_in _ (by omega)
  rw [← e]
  repeat' (first | refine aS ?_ | refine yc ?_ (ha := by first | exact vD (w := 6) (by decide) (by omega) (by omega) | assumption) | (show zn; refine aA ?_ (ha := by first | exact vD (w := 6) (by decide) (by omega) (by omega) | assumption)) | (show gA; first | refine aH (fun _ => ?_) fun _ => ?_ | refine gc_E (fun _ => ?_) fun _ => ?_ | refine gc_N (fun _ => ?_) fun _ => ?_ | refine aT ?_ | refine gc_B (fun _ => ?_) fun _ => ?_) | fail)
  rfl
 ·repeat' (first | refine aS ?_ | refine yc ?_ (ha := by first | exact vD (w := 6) (by decide) (by omega) (by omega) | assumption) | (show zn; refine aA ?_ (ha := by first | exact vD (w := 6) (by decide) (by omega) (by omega) | assumption)) | (show gA; first | refine aH (fun _ => ?_) fun _ => ?_ | refine gc_E (fun _ => ?_) fun _ => ?_ | refine gc_N (fun _ => ?_) fun _ => ?_ | refine aT ?_ | refine gc_B (fun _ => ?_) fun _ => ?_) | fail)
  rfl
theorem fG {s : Option Nat} {H : aC} {b : List UInt8} {n : Int} {w : Nat} (hw : W4 w) (h0 : 0 ≤ n) (h1 : n < 256 ^ w) (hb : b.length ≤ 1000000) : Call tab s aQ [.sl (some 1) b.length (enL b), .int .i64 n, .int .i64 (w : Int)] H = some (.sl (some 1) (b ++ be n w).length (enL (b ++ be n w)), H) := by
 have hl : (be n w).length ≤ 6 := by rw [qM]; rcases hw with rfl | rfl | rfl | rfl <;> decide
 ((first | refine aJ ?_ | skip); refine bX (cf := wI) rfl rfl rfl rfl ?_; unfold wI; dsimp only [aB, Nat.reduceAdd, Nat.zero_add])
 repeat' (first | refine aS ?_ | refine yc ?_ (ha := by first | exact vD hw h0 h1 | assumption) | (show zn; refine aA ?_ (ha := by first | exact vD hw h0 h1 | assumption)) | (show gA; first | refine aH (fun _ => ?_) fun _ => ?_ | refine gc_E (fun _ => ?_) fun _ => ?_ | refine gc_N (fun _ => ?_) fun _ => ?_ | refine aT ?_ | refine gc_B (fun _ => ?_) fun _ => ?_) | fail)
 rfl
theorem pO {s : Option Nat} {H : aC} {n : Int} {w : Nat} (hw : W4 w) (h0 : 0 ≤ n) (h1 : n < 256 ^ w) : Call tab s aQ [.sl (some 1) 0 [], .int .i64 n, .int .i64 (w : Int)] H = some (.sl (some 1) (be n w).length (enL (be n w)), H) := by
 have := fG (s := s) (H := H) (b := []) hw h0 h1 (by decide)
 rwa [aO, List.nil_append] at this
def nE (l : List Int) : List UInt8 := l.flatMap fun x => be x 1
theorem C3 (l : List Int) : (nE l).length = l.length := by
 unfold nE
 induction l with
 | nil => rfl
 | cons x l ih => rw [List.flatMap_cons, List.length_append, qM, ih, List.length_cons]; omega
theorem S4 {l : List Int} {i : Nat} {x : Int} (h : l[i]? = some x) : nE (l.take (i + 1)) = nE (l.take i) ++ be x 1 := by
 unfold nE
 rw [← oT h, List.flatMap_append]; simp
theorem wR {s : Option Nat} {H : aC} {b : List UInt8} {l : List Int} (hl : fI l) (hb : b.length ≤ 1000) : Call tab s fY [.sl (some 1) b.length (enL b), .sl none l.length (enL l)] H = some (.sl (some 1) (b ++ aBv l).length (enL (b ++ aBv l)), H) := by
 obtain ⟨l1, l2, l3⟩ := hl
 have e1 : ∀ n : Int, (be n 1).length = 1 := fun n => qM n 1
 have e2 := e1 l.length
 show _ = some (V.sl (some 1) (b ++ (be l.length 1 ++ nE l)).length (enL (b ++ (be l.length 1 ++ nE l))), H)
 rw [← List.append_assoc]
 ((first | refine aJ ?_ | skip); refine bX (cf := nZ) rfl rfl rfl rfl ?_; unfold nZ; dsimp only [aB, Nat.reduceAdd, Nat.zero_add])
 repeat' (first | refine aS ?_ | refine yc ?_ (ha := by first | exact fG (w := 1) (by decide) (by omega) (by omega) (by omega) | assumption) | (show zn; refine aA ?_ (ha := by first | exact fG (w := 1) (by decide) (by omega) (by omega) (by omega) | assumption)) | (show gA; first | refine aH (fun _ => ?_) fun _ => ?_ | refine gc_E (fun _ => ?_) fun _ => ?_ | refine gc_N (fun _ => ?_) fun _ => ?_ | refine aT ?_ | refine gc_B (fun _ => ?_) fun _ => ?_) | fail)
 refine xU l.length (fun i (_ : Unit) => [(0, V.sl (some 1) (b ++ be l.length 1 ++ nE (l.take i)).length (enL (b ++ be l.length 1 ++ nE (l.take i)))), (5, .int .i64 i)]) (fun _ _ => []) (fun _ _ => True) ?_ ?_ () trivial (by simp only [List.take_zero, nE, List.flatMap_nil, List.append_nil]; rfl)
 ·intro i _ hi _ ih
  obtain ⟨x, hx⟩ := xT hi
  have hx2 := l3 x (List.mem_of_getElem? hx)
  rw [S4 hx, ← List.append_assoc] at ih
  have e3 : (nE (l.take i)).length ≤ 6 := by rw [C3, List.length_take]; omega
  generalize nE (l.take i) = q at *
  have hw : IntKind.i64.wrap ((i : Int) + 1) = ((i + 1 : Nat) : Int) := IntWalk.i64_in _ (by omega)
  have hil : (i : Int) < (l.length : Int) := by omega
  refine cD (by dsimp only [pN, lk, Nat.reduceBEq, cond_true, cond_false, Option.getD_some, Option.getD_none]; first | done | exact rfl) ?_; refine aY ?_
  unfold oW
  repeat' (first | refine aS ?_ | refine yc ?_ (ha := by first | exact fG (w := 1) (by decide) (by omega) (by omega) (by simp only [List.length_append]; omega) | assumption) | (show zn; refine aA ?_ (ha := by first | exact fG (w := 1) (by decide) (by omega) (by omega) (by simp only [List.length_append]; omega) | assumption)) | (show gA; first | refine aH (fun _ => ?_) fun _ => ?_ | refine gc_E (fun _ => ?_) fun _ => ?_ | refine gc_N (fun _ => ?_) fun _ => ?_ | refine aT ?_ | refine gc_B (fun _ => ?_) fun _ => ?_) | fail)
  refine jQ ?_
  exact ih () trivial
 ·intro _ _
  rw [List.take_length]
  refine cD (by dsimp only [pN, lk, Nat.reduceBEq, cond_true, cond_false, Option.getD_some, Option.getD_none]; first | done | exact rfl) ?_; refine aY ?_
  unfold oW
  repeat' (first | refine aS ?_ | refine yc ?_ | (show zn; refine aA ?_) | (show gA; first | refine aH (fun _ => ?_) fun _ => ?_ | refine gc_E (fun _ => ?_) fun _ => ?_ | refine gc_N (fun _ => ?_) fun _ => ?_ | refine aT ?_ | refine gc_B (fun _ => ?_) fun _ => ?_) | fail)
  rfl
end Go.Abs
namespace Go.Abs
open Go.Proofs.YtpcnjabfiahhhaaGreatDoor
attribute [local irreducible] enL R RR fP fB pX fK fQ pU apply fT gQ bW bZ eJ bR iL bG bD eC cR kD dO V.rb V.rbL
def bV (b : List UInt8) : List V := [.sl (some 1) b.length (enL b)]
def beL (w : Nat) (l : List Int) : List UInt8 := l.flatMap fun x => be x w
theorem aLe {w : Nat} {l : List Int} {i : Nat} {x : Int} (h : l[i]? = some x) : beL w (l.take (i + 1)) = beL w (l.take i) ++ be x w := by
 unfold beL
 rw [← oT h, List.flatMap_append]; simp
theorem aQz (w : Nat) (l : List Int) : (beL w l).length = l.length * w := by
 unfold beL
 induction l with
 | nil => simp
 | cons x l ih => rw [List.flatMap_cons, List.length_append, qM, ih, List.length_cons, Nat.succ_mul]; omega
theorem aEf {H : aC} {id : Nat} {a b : List V} (h : H[id]? = some a) : (H.set id b)[id]? = some b := by
 rw [List.getElem?_set_self (List.getElem?_eq_some_iff.1 h).1]
theorem aJz {H : aC} {id : Nat} {a : List V} (h : H[id]? = some a) : H.set id a = H := by
 obtain ⟨hl, rfl⟩ := List.getElem?_eq_some_iff.1 h
 exact List.set_getElem_self hl
set_option maxHeartbeats 1000000 in
theorem M8 {H : aC} {lm id w : Nat} {b : List UInt8} {l : List Int} (hid : H[id]? = some (bV b)) (hlm : lm ≤ id) (hw : W4 w) (hl : ∀ x ∈ l, 0 ≤ x ∧ x < 256 ^ w) (hll : l.length ≤ 1000) (hb : b.length ≤ 1000000) :
 Call tab (some lm) aF [.ptr id 0, .int .i64 (w : Int), .sl none l.length (enL l)] H = some (.tup [], H.set id (bV (b ++ beL w l))) := by
 have h0 := aJz hid
 have hlen : id < H.length := (List.getElem?_eq_some_iff.1 hid).1
 ((first | refine aJ ?_ | skip); refine aKp (cf := hY) rfl rfl rfl (by decide) ?_; unfold hY; dsimp only [aB, Nat.reduceAdd, Nat.zero_add])
 repeat' (first | refine aS ?_ | refine yc ?_ | (show zn; refine aA ?_) | (show gA; first | refine aH (fun _ => ?_) fun _ => ?_ | refine gc_E (fun _ => ?_) fun _ => ?_ | refine gc_N (fun _ => ?_) fun _ => ?_ | refine aT ?_ | refine gc_B (fun _ => ?_) fun _ => ?_) | fail)
 refine xU l.length (fun i (_ : Unit) => [(12, .int .i64 i)]) (fun i _ => H.set id (bV (b ++ beL w (l.take i)))) (fun _ _ => True) ?_ ?_ () trivial rfl (by simp only [List.take_zero, beL, List.flatMap_nil, List.append_nil]; exact h0)
 ·intro i _ hi _ ih
  obtain ⟨x, hx⟩ := xT hi
  have hx2 := hl x (List.mem_of_getElem? hx)
  have hbl : (beL w (l.take i)).length ≤ 6000 := by
   rw [aQz, List.length_take]
   have : min i l.length * w ≤ 1000 * 6 := Nat.mul_le_mul (by omega) (by rcases hw with rfl | rfl | rfl | rfl <;> decide)
   omega
  have hbx : (be x w).length ≤ 6 := by rw [qM]; rcases hw with rfl | rfl | rfl | rfl <;> decide
  rw [aLe hx, ← List.append_assoc] at ih
  have hid2 := aEf (b := bV (b ++ beL w (l.take i))) hid
  have hlen2 : (H.set id (bV (b ++ beL w (l.take i)))).length = H.length := List.length_set ..
  generalize hq : beL w (l.take i) = q at *
  have hse : ∀ c, (H.set id (bV (b ++ q))).set id c = H.set id c := fun c => List.set_set ..
  generalize hG : H.set id (bV (b ++ q)) = G at *
  unfold bV at hid2
  have hwi : IntKind.i64.wrap ((i : Int) + 1) = ((i + 1 : Nat) : Int) := IntWalk.i64_in _ (by omega)
  have hil : (i : Int) < (l.length : Int) := by omega
  have hcap : (b ++ q).length ≤ 1006000 := by rw [List.length_append]; omega
  refine cD (by dsimp only [pN, lk, Nat.reduceBEq, cond_true, cond_false, Option.getD_some, Option.getD_none]; first | done | exact rfl) ?_; refine aY ?_
  unfold jK
  repeat' (first | refine aS ?_ | refine yc ?_ (ha := by first | exact aJn hw hx2.1 hx2.2 | assumption) | (show zn; refine aA ?_ (ha := by first | exact aJn hw hx2.1 hx2.2 | assumption)) | (show gA; first | refine aH (fun _ => ?_) fun _ => ?_ | refine gc_E (fun _ => ?_) fun _ => ?_ | refine gc_N (fun _ => ?_) fun _ => ?_ | refine aT ?_ | refine gc_B (fun _ => ?_) fun _ => ?_) | fail)
  refine jQ ?_
  have := ih () trivial
  simp only [List.set_set, hse, List.set_cons_zero] at *
  exact this
 ·intro _ _
  rw [List.take_length]
  refine cD (by dsimp only [pN, lk, Nat.reduceBEq, cond_true, cond_false, Option.getD_some, Option.getD_none]; first | done | exact rfl) ?_; refine aY ?_
  unfold jK
  repeat' (first | refine aS ?_ | refine yc ?_ | (show zn; refine aA ?_) | (show gA; first | refine aH (fun _ => ?_) fun _ => ?_ | refine gc_E (fun _ => ?_) fun _ => ?_ | refine gc_N (fun _ => ?_) fun _ => ?_ | refine aT ?_ | refine gc_B (fun _ => ?_) fun _ => ?_) | fail)
  rfl
end Go.Abs
