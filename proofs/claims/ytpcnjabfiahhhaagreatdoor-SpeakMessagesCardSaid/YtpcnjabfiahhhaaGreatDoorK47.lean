/- A part of the proof of RowSpeakOffers, RowSpeakMessages: lemmas alone, without conditions. -/
import Derived.Test.YtpcnjabfiahhhaaGreatDoorK41
import Derived.Test.YtpcnjabfiahhhaaGreatDoorK40
set_option linter.all false
namespace Go.Abs
open Go.Proofs.YtpcnjabfiahhhaaGreatDoor
attribute [local irreducible] enL R RR fP fB pX fK fQ pU apply fT gQ bW bZ eJ bR iL bG bD eC cR kD dO V.rb V.rbL
set_option maxRecDepth 100000 in
set_option maxHeartbeats 8000000 in
theorem aW6 {s : Option Nat} {H : aC} {m : Int} (h3 : 1 + m % 65536 % 4 = 4) (hs : m % 65536 / 4 % 4 = 2) : ∃ x, NumOK 4 x ∧ Call tab s cY [.int .i64 m] H = some ((bM 7 x).v, H) := by
 have hN : 0 ≤ m % 65536 ∧ m % 65536 < 65536 := by omega
 obtain ⟨N, eN⟩ : ∃ N, m % 65536 = N := ⟨_, rfl⟩
 rw [eN] at h3 hN hs
 obtain ⟨cy, ecy⟩ : ∃ cy, 20000 + 1000 * (N / 16 % 8) = cy := ⟨_, rfl⟩
 obtain ⟨dr, edr⟩ : ∃ dr, 20 * (N / 128 % 8) = dr := ⟨_, rfl⟩
 obtain ⟨lo, elo⟩ : ∃ lo, N / 1024 % 2 = lo := ⟨_, rfl⟩
 have hA : NumA ⟨cy, 0, dr, 3 * (lo + 1) + 1 + N / 2048 % 4, lo, 4 * (lo + 1) + 2 + N / 8192 % 2, 4 * (lo + 1) + 2⟩ := ⟨⟨by show 20000 ≤ cy; omega, by show cy ≤ 27000; omega⟩, ⟨by show 0 ≤ dr; omega, by show dr ≤ 140; omega⟩, ⟨by show 0 ≤ lo; omega, by show lo ≤ 1; omega⟩, ⟨by show 1 ≤ 3 * (lo + 1) + 1 + N / 2048 % 4; omega, by show 3 * (lo + 1) + 1 + N / 2048 % 4 ≤ 10; omega⟩⟩
 have hE := nV hA
 have hEx : kY ⟨cy, 0, dr, 3 * (lo + 1) + 1 + N / 2048 % 4, lo, 4 * (lo + 1) + 2 + N / 8192 % 2, 4 * (lo + 1) + 2⟩ = uT (2 * dr * cy) 1000000 + 1 := rfl
 have hch : ∀ s H, Call tab s bS [(bM 7 ⟨cy, 0, dr, 3 * (lo + 1) + 1 + N / 2048 % 4, lo, 4 * (lo + 1) + 2 + N / 8192 % 2, 4 * (lo + 1) + 2⟩).v] H = some (.tup [.int .i64 0, .int .i64 0], H) := fun s H => aLw _
 generalize hG : kY ⟨cy, 0, dr, 3 * (lo + 1) + 1 + N / 2048 % 4, lo, 4 * (lo + 1) + 2 + N / 8192 % 2, 4 * (lo + 1) + 2⟩ = E at *
 refine ⟨⟨cy, 3 * E, dr, 3 * (lo + 1) + 1 + N / 2048 % 4, lo, 4 * (lo + 1) + 2 + N / 8192 % 2, 4 * (lo + 1) + 2⟩, ⟨⟨by show 20000 ≤ cy; omega, by show cy ≤ 27000; omega⟩, ⟨by show 0 ≤ dr; omega, by show dr ≤ 140; omega⟩, by show 3 * E = 3 * (uT (2 * dr * cy) 1000000 + 1); rw [hEx], ⟨by show 0 ≤ lo; omega, by show lo ≤ 1; omega⟩, ⟨by show (4 - 1) * (lo + 1) + 1 ≤ 3 * (lo + 1) + 1 + N / 2048 % 4; omega, by show 3 * (lo + 1) + 1 + N / 2048 % 4 ≤ 10; omega⟩, ⟨by show 4 * (lo + 1) + 2 ≤ 4 * (lo + 1) + 2 + N / 8192 % 2; omega, by show 4 * (lo + 1) + 2 + N / 8192 % 2 ≤ 12; omega⟩, ⟨by show 4 * (lo + 1) + 2 ≤ 4 * (lo + 1) + 2; omega, by show 4 * (lo + 1) + 2 ≤ 12; omega⟩⟩, ?_⟩
 have w10 : IntKind.i64.wrap (1 - 1 : Int) = 0 := by decide
 have w21 : IntKind.i64.wrap (2 - 1 : Int) = 1 := by decide
 have w32 : IntKind.i64.wrap (3 - 1 : Int) = 2 := by decide
 have w43 : IntKind.i64.wrap (4 - 1 : Int) = 3 := by decide
 have w12 : IntKind.i64.wrap (1 + 1 : Int) = 2 := by decide
 have w23 : IntKind.i64.wrap (2 + 1 : Int) = 3 := by decide
 have w34 : IntKind.i64.wrap (3 + 1 : Int) = 4 := by decide
 ((first | refine aJ ?_ | skip); refine bX (cf := cA) rfl rfl rfl rfl ?_; unfold cA; dsimp only [aB, Nat.reduceAdd, Nat.zero_add])
 repeat' (first | refine aS ?_ | refine yc ?_ | (show zn; refine aA ?_) | (show gA; first | refine aH (fun _ => ?_) fun _ => ?_ | refine gc_E (fun _ => ?_) fun _ => ?_ | refine gc_N (fun _ => ?_) fun _ => ?_ | refine aT ?_ | refine gc_B (fun _ => ?_) fun _ => ?_) | fail)
 rw [eN, ecy, edr, elo, h3]
 refine oV 20 (o := (.exit 0, [(0, .int .i64 N), (2, .ptr 0 0), (3, .int .i64 4), (4, .int .i64 (N / 4 % 4)), (5, .ptr 1 0), (6, .int .i64 4), (33, .bool false)], [[.nls, .nls, .int .i64 0, .int .i64 0, .int .i64 0, .int .i64 0, .int .i64 0, .int .i64 0, .int .i64 0, .int .i64 0, .int .i64 0, .int .i64 0, .int .i64 0], [.ar 2 5 0 4 4, .nls, .int .i64 cy, .int .i64 60, .int .i64 100, .int .i64 0, .int .i64 dr, .int .i64 300000, .int .i64 0, .int .i64 lo, .int .i64 0, .int .i64 0, .int .i64 12], [], [], [], [.int .i64 5, .int .i64 1, .int .i64 5, .int .i64 1, .int .i64 5, .int .i64 1, .int .i64 5, .int .i64 1]])) (by kernel_rfl) ?_
 all_goals (repeat' (first | refine aS ?_ | refine yc ?_ | (show zn; refine aA ?_) | (show gA; first | refine aH (fun _ => ?_) fun _ => ?_ | refine gc_E (fun _ => ?_) fun _ => ?_ | refine gc_N (fun _ => ?_) fun _ => ?_ | refine aT ?_ | refine gc_B (fun _ => ?_) fun _ => ?_) | fail))
 all_goals (refine aY ?_)
 all_goals (unfold eB)
 all_goals (repeat' (first | refine aS ?_ | refine yc ?_ | (show zn; refine aA ?_) | (show gA; first | refine aH (fun _ => ?_) fun _ => ?_ | refine gc_E (fun _ => ?_) fun _ => ?_ | refine gc_N (fun _ => ?_) fun _ => ?_ | refine aT ?_ | refine gc_B (fun _ => ?_) fun _ => ?_) | fail))
 all_goals (refine aA ?_ (ha := pA (x1 := cy) (x2 := 60) (x3 := 100) (x4 := 0) (x5 := dr) (x6 := 300000) (x7 := 0) (x8 := lo) (x9 := 0) (x10 := 0) (x11 := 12) (id := 1) (pid := 5) (pn := 4) (pk := 4) (a := 0) (b := 1) (na := 5) (nb := 5) (PC := [.int .i64 5, .int .i64 1, .int .i64 5, .int .i64 1, .int .i64 5, .int .i64 1, .int .i64 5, .int .i64 1]) (by kernel_rfl) (by kernel_rfl) (by decide) rfl rfl (by decide) (by decide) (by decide) (Nat.zero_le _) (by kernel_rfl)) (hn := nU (dI (by decide))))
 all_goals (repeat' (first | refine aS ?_ | refine yc ?_ | (show zn; refine aA ?_) | (show gA; first | refine aH (fun _ => ?_) fun _ => ?_ | refine gc_E (fun _ => ?_) fun _ => ?_ | refine gc_N (fun _ => ?_) fun _ => ?_ | refine aT ?_ | refine gc_B (fun _ => ?_) fun _ => ?_) | fail))
 all_goals (refine qU (by kernel_rfl) ?_)
 all_goals (refine lX (e' := [(0, .int .i64 N), (2, .ptr 0 0), (3, .int .i64 4), (4, .int .i64 (N / 4 % 4)), (5, .ptr 1 0), (7, .int .i64 2)]) (H' := [[.nls, .nls, .int .i64 0, .int .i64 0, .int .i64 0, .int .i64 0, .int .i64 0, .int .i64 0, .int .i64 0, .int .i64 0, .int .i64 0, .int .i64 0, .int .i64 0], [.ar 2 5 0 4 4, .ar 6 6 0 1 1, .int .i64 cy, .int .i64 60, .int .i64 100, .int .i64 0, .int .i64 dr, .int .i64 300000, .int .i64 0, .int .i64 lo, .int .i64 0, .int .i64 0, .int .i64 12], [], [], [], [.int .i64 6, .int .i64 1, .int .i64 6, .int .i64 1, .int .i64 5, .int .i64 1, .int .i64 5, .int .i64 1], [.int .i64 0, .int .i64 1, .int .i64 0, .int .i64 1, .int .i64 0, .int .i64 1]]) (by kernel_rfl) (by kernel_rfl) ?_)
 all_goals (refine aY ?_)
 all_goals (repeat' (first | refine aS ?_ | refine yc ?_ | (show zn; refine aA ?_) | (show gA; first | refine aH (fun _ => ?_) fun _ => ?_ | refine gc_E (fun _ => ?_) fun _ => ?_ | refine gc_N (fun _ => ?_) fun _ => ?_ | refine aT ?_ | refine gc_B (fun _ => ?_) fun _ => ?_) | fail))
 all_goals (refine aA ?_ (ha := jA (lid := 6) (lq := 1) (l := [⟨0, 1, 0, 1, 0, 1⟩]) (x1 := cy) (x2 := 60) (x3 := 100) (x4 := 0) (x5 := dr) (x6 := 300000) (x7 := 0) (x8 := lo) (x9 := 0) (x10 := 0) (x11 := 12) (id := 1) (pid := 5) (pn := 4) (pk := 4) (a := 0) (b := 2) (na := 6) (nb := 5) (PC := [.int .i64 6, .int .i64 1, .int .i64 6, .int .i64 1, .int .i64 5, .int .i64 1, .int .i64 5, .int .i64 1]) (by kernel_rfl) (by kernel_rfl) (by decide) (by kernel_rfl) (by decide) rfl rfl (by decide) (by decide) (by decide) (Nat.zero_le _) (by kernel_rfl)) (hn := nU (dI (by decide))))
 all_goals (repeat' (first | refine aS ?_ | refine yc ?_ | (show zn; refine aA ?_) | (show gA; first | refine aH (fun _ => ?_) fun _ => ?_ | refine gc_E (fun _ => ?_) fun _ => ?_ | refine gc_N (fun _ => ?_) fun _ => ?_ | refine aT ?_ | refine gc_B (fun _ => ?_) fun _ => ?_) | fail))
 all_goals (refine d8 ?_ (ha := jO (cs := [.int .i64 0, .int .i64 1, .int .i64 0, .int .i64 1, .int .i64 0, .int .i64 1]) (h := by kernel_rfl) (hc := by simp) (hl := by decide)))
 all_goals (repeat' (first | refine aS ?_ | refine yc ?_ | (show zn; refine aA ?_) | (show gA; first | refine aH (fun _ => ?_) fun _ => ?_ | refine gc_E (fun _ => ?_) fun _ => ?_ | refine gc_N (fun _ => ?_) fun _ => ?_ | refine aT ?_ | refine gc_B (fun _ => ?_) fun _ => ?_) | fail))
 all_goals (refine qU (by kernel_rfl) ?_)
 all_goals (refine lX (e' := [(0, .int .i64 N), (2, .ptr 0 0), (3, .int .i64 4), (4, .int .i64 (N / 4 % 4)), (5, .ptr 1 0), (7, .int .i64 3)]) (H' := [[.nls, .nls, .int .i64 0, .int .i64 0, .int .i64 0, .int .i64 0, .int .i64 0, .int .i64 0, .int .i64 0, .int .i64 0, .int .i64 0, .int .i64 0, .int .i64 0], [.ar 2 5 0 4 4, .ar 6 7 0 2 2, .int .i64 cy, .int .i64 60, .int .i64 100, .int .i64 0, .int .i64 dr, .int .i64 300000, .int .i64 0, .int .i64 lo, .int .i64 0, .int .i64 0, .int .i64 12], [], [], [], [.int .i64 8, .int .i64 1, .int .i64 6, .int .i64 1, .int .i64 6, .int .i64 1, .int .i64 5, .int .i64 1], [], [.int .i64 0, .int .i64 1, .int .i64 0, .int .i64 1, .int .i64 0, .int .i64 1, .int .i64 0, .int .i64 2, .int .i64 2, .int .i64 3, .int .i64 0, .int .i64 1]]) (by kernel_rfl) (by kernel_rfl) ?_)
 all_goals (refine aY ?_)
 all_goals (repeat' (first | refine aS ?_ | refine yc ?_ | (show zn; refine aA ?_) | (show gA; first | refine aH (fun _ => ?_) fun _ => ?_ | refine gc_E (fun _ => ?_) fun _ => ?_ | refine gc_N (fun _ => ?_) fun _ => ?_ | refine aT ?_ | refine gc_B (fun _ => ?_) fun _ => ?_) | fail))
 all_goals (refine aA ?_ (ha := jA (lid := 7) (lq := 2) (l := [⟨0, 1, 0, 1, 0, 1⟩, ⟨0, 2, 2, 3, 0, 1⟩]) (x1 := cy) (x2 := 60) (x3 := 100) (x4 := 0) (x5 := dr) (x6 := 300000) (x7 := 0) (x8 := lo) (x9 := 0) (x10 := 0) (x11 := 12) (id := 1) (pid := 5) (pn := 4) (pk := 4) (a := 0) (b := 3) (na := 8) (nb := 5) (PC := [.int .i64 8, .int .i64 1, .int .i64 6, .int .i64 1, .int .i64 6, .int .i64 1, .int .i64 5, .int .i64 1]) (by kernel_rfl) (by kernel_rfl) (by decide) (by kernel_rfl) (by decide) rfl rfl (by decide) (by decide) (by decide) (Nat.zero_le _) (by kernel_rfl)) (hn := nU (dI (by decide))))
 all_goals (repeat' (first | refine aS ?_ | refine yc ?_ | (show zn; refine aA ?_) | (show gA; first | refine aH (fun _ => ?_) fun _ => ?_ | refine gc_E (fun _ => ?_) fun _ => ?_ | refine gc_N (fun _ => ?_) fun _ => ?_ | refine aT ?_ | refine gc_B (fun _ => ?_) fun _ => ?_) | fail))
 all_goals (refine d8 ?_ (ha := jO (cs := [.int .i64 0, .int .i64 1, .int .i64 0, .int .i64 1, .int .i64 0, .int .i64 1, .int .i64 0, .int .i64 2, .int .i64 2, .int .i64 3, .int .i64 0, .int .i64 1]) (h := by kernel_rfl) (hc := by simp) (hl := by decide)))
 all_goals (repeat' (first | refine aS ?_ | refine yc ?_ | (show zn; refine aA ?_) | (show gA; first | refine aH (fun _ => ?_) fun _ => ?_ | refine gc_E (fun _ => ?_) fun _ => ?_ | refine gc_N (fun _ => ?_) fun _ => ?_ | refine aT ?_ | refine gc_B (fun _ => ?_) fun _ => ?_) | fail))
 all_goals (refine qU (by kernel_rfl) ?_)
 all_goals (refine lX (e' := [(0, .int .i64 N), (2, .ptr 0 0), (3, .int .i64 4), (4, .int .i64 (N / 4 % 4)), (5, .ptr 1 0), (7, .int .i64 4)]) (H' := [[.nls, .nls, .int .i64 0, .int .i64 0, .int .i64 0, .int .i64 0, .int .i64 0, .int .i64 0, .int .i64 0, .int .i64 0, .int .i64 0, .int .i64 0, .int .i64 0], [.ar 2 5 0 4 4, .ar 6 8 0 3 3, .int .i64 cy, .int .i64 60, .int .i64 100, .int .i64 0, .int .i64 dr, .int .i64 300000, .int .i64 0, .int .i64 lo, .int .i64 0, .int .i64 0, .int .i64 12], [], [], [], [.int .i64 10, .int .i64 1, .int .i64 6, .int .i64 1, .int .i64 6, .int .i64 1, .int .i64 6, .int .i64 1], [], [], [.int .i64 0, .int .i64 1, .int .i64 0, .int .i64 1, .int .i64 0, .int .i64 1, .int .i64 0, .int .i64 2, .int .i64 2, .int .i64 3, .int .i64 0, .int .i64 1, .int .i64 0, .int .i64 3, .int .i64 4, .int .i64 5, .int .i64 0, .int .i64 1]]) (by kernel_rfl) (by kernel_rfl) ?_)
 all_goals (refine aY ?_)
 all_goals (repeat' (first | refine aS ?_ | refine yc ?_ | (show zn; refine aA ?_) | (show gA; first | refine aH (fun _ => ?_) fun _ => ?_ | refine gc_E (fun _ => ?_) fun _ => ?_ | refine gc_N (fun _ => ?_) fun _ => ?_ | refine aT ?_ | refine gc_B (fun _ => ?_) fun _ => ?_) | fail))
 all_goals (refine dE ?_ (ha := tA hA (by decide) hch (by kernel_rfl)))
 all_goals (rw [hG])
 all_goals (repeat' (first | refine aS ?_ | refine yc ?_ | (show zn; refine aA ?_) | (show gA; first | refine aH (fun _ => ?_) fun _ => ?_ | refine gc_E (fun _ => ?_) fun _ => ?_ | refine gc_N (fun _ => ?_) fun _ => ?_ | refine aT ?_ | refine gc_B (fun _ => ?_) fun _ => ?_) | fail))
 all_goals (refine j7 ?_)
 all_goals (kernel_rfl)
end Go.Abs
