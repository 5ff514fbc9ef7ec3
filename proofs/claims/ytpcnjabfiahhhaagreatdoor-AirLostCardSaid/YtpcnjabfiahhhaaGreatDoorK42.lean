/- A part of the proof of RowAirFits, RowAirHeard, RowAirOrder, RowAirLost: lemmas alone, without conditions. -/
import Derived.Test.YtpcnjabfiahhhaaGreatDoorK41
set_option linter.all false
namespace Go.Abs
open Go.Proofs.YtpcnjabfiahhhaaGreatDoor
attribute [local irreducible] enL R RR dF cZ lV dE dG mP apply dB eI aX aZ cO aW fB aP aN cK bN gL cA V.rb V.rbL
set_option maxRecDepth 100000 in
set_option maxHeartbeats 8000000 in
theorem aUw {s : Option Nat} {H : aB} {m : Int} (h3 : 1 + m % 65536 % 4 = 1)  : ∃ x, NumOK 1 x ∧ Call tab s aR [.int .i64 m] H = some ((pA 0 x).v, H) := by
 refine tZ (m := m) (Q := fun x => Call tab s aR [.int .i64 m] H = some ((pA 0 x).v, H)) (by decide) fun N cy dr lo E eN hN ecy edr elo hcy hdr hlo hE hA hG w10 w21 w32 w43 w12 w23 w34 => ?_
 rw [eN] at h3
 have hch : ∀ s H, Call tab s cG [(pA 0 (tE 1 N cy dr lo 0)).v] H = some (.tup [.int .i64 0, .int .i64 0], H) := fun s H => k8 (xB (tE 1 N cy dr lo 0)) 0 (by decide)
 ((first | refine aC ?_ | skip); refine bE (cf := bH) rfl rfl rfl rfl ?_; unfold bH; dsimp only [aA, Nat.reduceAdd, Nat.zero_add])
 repeat' (first | refine aF ?_ | refine yc ?_ | refine sG (fun _ => ?_) fun _ => ?_ | refine aG ?_ | refine sH (fun _ => ?_) fun _ => ?_ | fail)
 rw [eN, ecy, edr, elo, h3]
 refine pL 20 (o := (.exit 0, [(0, .int .i64 N), (2, .ptr 0 0), (3, .int .i64 1), (4, .int .i64 (N / 4 % 4)), (5, .ptr 1 0), (6, .int .i64 1), (33, .bool false)], [[.nls, .nls, .int .i64 0, .int .i64 0, .int .i64 0, .int .i64 0, .int .i64 0, .int .i64 0, .int .i64 0, .int .i64 0, .int .i64 0, .int .i64 0, .int .i64 0], [.ar 2 2 0 1 1, .nls, .int .i64 cy, .int .i64 60, .int .i64 100, .int .i64 0, .int .i64 dr, .int .i64 300000, .int .i64 0, .int .i64 lo, .int .i64 0, .int .i64 0, .int .i64 12], [.int .i64 5, .int .i64 1]])) (by kernel_rfl) ?_
 all_goals (repeat' (first | refine aF ?_ | refine yc ?_ | refine sG (fun _ => ?_) fun _ => ?_ | refine aG ?_ | refine sH (fun _ => ?_) fun _ => ?_ | fail))
 all_goals (refine aE ?_)
 all_goals (unfold dK)
 all_goals (repeat' (first | refine aF ?_ | refine yc ?_ | refine sG (fun _ => ?_) fun _ => ?_ | refine aG ?_ | refine sH (fun _ => ?_) fun _ => ?_ | fail))
 all_goals (refine cI ?_ (ha := tN hA (by decide) hch (by kernel_rfl)))
 all_goals (rw [hG])
 all_goals (repeat' (first | refine aF ?_ | refine yc ?_ | refine sG (fun _ => ?_) fun _ => ?_ | refine aG ?_ | refine sH (fun _ => ?_) fun _ => ?_ | fail))
 all_goals (refine n7 ?_)
 all_goals (kernel_rfl)
set_option maxRecDepth 100000 in
set_option maxHeartbeats 8000000 in
theorem aUx {s : Option Nat} {H : aB} {m : Int} (h3 : 1 + m % 65536 % 4 = 2)  : ∃ x, NumOK 2 x ∧ Call tab s aR [.int .i64 m] H = some ((pA 1 x).v, H) := by
 refine tZ (m := m) (Q := fun x => Call tab s aR [.int .i64 m] H = some ((pA 1 x).v, H)) (by decide) fun N cy dr lo E eN hN ecy edr elo hcy hdr hlo hE hA hG w10 w21 w32 w43 w12 w23 w34 => ?_
 rw [eN] at h3
 have hch : ∀ s H, Call tab s cG [(pA 1 (tE 2 N cy dr lo 0)).v] H = some (.tup [.int .i64 0, .int .i64 0], H) := fun s H => k8 (xB (tE 2 N cy dr lo 0)) 1 (by decide)
 ((first | refine aC ?_ | skip); refine bE (cf := bH) rfl rfl rfl rfl ?_; unfold bH; dsimp only [aA, Nat.reduceAdd, Nat.zero_add])
 repeat' (first | refine aF ?_ | refine yc ?_ | refine sG (fun _ => ?_) fun _ => ?_ | refine aG ?_ | refine sH (fun _ => ?_) fun _ => ?_ | fail)
 rw [eN, ecy, edr, elo, h3]
 refine pL 20 (o := (.exit 0, [(0, .int .i64 N), (2, .ptr 0 0), (3, .int .i64 2), (4, .int .i64 (N / 4 % 4)), (5, .ptr 1 0), (6, .int .i64 2), (33, .bool false)], [[.nls, .nls, .int .i64 0, .int .i64 0, .int .i64 0, .int .i64 0, .int .i64 0, .int .i64 0, .int .i64 0, .int .i64 0, .int .i64 0, .int .i64 0, .int .i64 0], [.ar 2 3 0 2 2, .nls, .int .i64 cy, .int .i64 60, .int .i64 100, .int .i64 0, .int .i64 dr, .int .i64 300000, .int .i64 0, .int .i64 lo, .int .i64 0, .int .i64 0, .int .i64 12], [], [.int .i64 5, .int .i64 1, .int .i64 5, .int .i64 1]])) (by kernel_rfl) ?_
 all_goals (repeat' (first | refine aF ?_ | refine yc ?_ | refine sG (fun _ => ?_) fun _ => ?_ | refine aG ?_ | refine sH (fun _ => ?_) fun _ => ?_ | fail))
 all_goals (refine aE ?_)
 all_goals (unfold dK)
 all_goals (repeat' (first | refine aF ?_ | refine yc ?_ | refine sG (fun _ => ?_) fun _ => ?_ | refine aG ?_ | refine sH (fun _ => ?_) fun _ => ?_ | fail))
 all_goals (refine eZ ?_ (ha := pJ (x1 := cy) (x2 := 60) (x3 := 100) (x4 := 0) (x5 := dr) (x6 := 300000) (x7 := 0) (x8 := lo) (x9 := 0) (x10 := 0) (x11 := 12) (id := 1) (pid := 3) (pn := 2) (pk := 2) (a := 0) (b := 1) (na := 5) (nb := 5) (PC := [.int .i64 5, .int .i64 1, .int .i64 5, .int .i64 1]) (by kernel_rfl) (by kernel_rfl) (by decide) rfl rfl (by decide) (by decide) (by decide) (Nat.zero_le _) (by kernel_rfl)) (hn := oG (cL (by decide))))
 all_goals (repeat' (first | refine aF ?_ | refine yc ?_ | refine sG (fun _ => ?_) fun _ => ?_ | refine aG ?_ | refine sH (fun _ => ?_) fun _ => ?_ | fail))
 all_goals (refine rD (by kernel_rfl) ?_)
 all_goals (refine lY (e' := [(0, .int .i64 N), (2, .ptr 0 0), (3, .int .i64 2), (4, .int .i64 (N / 4 % 4)), (5, .ptr 1 0), (7, .int .i64 2)]) (H' := [[.nls, .nls, .int .i64 0, .int .i64 0, .int .i64 0, .int .i64 0, .int .i64 0, .int .i64 0, .int .i64 0, .int .i64 0, .int .i64 0, .int .i64 0, .int .i64 0], [.ar 2 3 0 2 2, .ar 6 4 0 1 1, .int .i64 cy, .int .i64 60, .int .i64 100, .int .i64 0, .int .i64 dr, .int .i64 300000, .int .i64 0, .int .i64 lo, .int .i64 0, .int .i64 0, .int .i64 12], [], [.int .i64 6, .int .i64 1, .int .i64 6, .int .i64 1], [.int .i64 0, .int .i64 1, .int .i64 0, .int .i64 1, .int .i64 0, .int .i64 1]]) (by kernel_rfl) (by kernel_rfl) ?_)
 all_goals (refine aE ?_)
 all_goals (repeat' (first | refine aF ?_ | refine yc ?_ | refine sG (fun _ => ?_) fun _ => ?_ | refine aG ?_ | refine sH (fun _ => ?_) fun _ => ?_ | fail))
 all_goals (refine cI ?_ (ha := tN hA (by decide) hch (by kernel_rfl)))
 all_goals (rw [hG])
 all_goals (repeat' (first | refine aF ?_ | refine yc ?_ | refine sG (fun _ => ?_) fun _ => ?_ | refine aG ?_ | refine sH (fun _ => ?_) fun _ => ?_ | fail))
 all_goals (refine n7 ?_)
 all_goals (kernel_rfl)
end Go.Abs
