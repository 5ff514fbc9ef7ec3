/- A part of the proof of RowAirFits, RowAirHeard, RowAirOrder, RowAirLost: lemmas alone, without conditions. -/
import Derived.Test.YtpcnjabfiahhhaaGreatDoorK26
set_option linter.all false
namespace Go.Abs
open Go.Proofs.YtpcnjabfiahhhaaGreatDoor
attribute [local irreducible] enL R RR dF cZ lV dE dG mP apply dB eI aX aZ cO aW fB aP aN cK bN gL cA V.rb V.rbL
instance (f : Frame) : Decidable (tD f) := by unfold tD; infer_instance
theorem bB7 {f : Frame} (h : f = fr1 f.part f.node f.wait) : tD f ↔ (0 ≤ f.part ∧ f.part < 6 ∧ 0 ≤ f.node ∧ f.node < 12 ∧ 0 ≤ f.wait ∧ f.wait ≤ 60000) := by
 have hk : f.kind = 1 := congrArg Frame.kind h
 constructor
 ·rintro ⟨a, b, c, d, k | k | k | k | k⟩
  all_goals first | exact ⟨a, b, c, d, k.2⟩ | (exfalso; have k2 := congrArg Frame.kind k.1; simp only [fr1, fr2, fr3, fr4, fr5] at k2; omega)
 ·rintro ⟨a, b, c, d, k⟩
  exact ⟨a, b, c, d, .inl ⟨h, k⟩⟩
theorem bB8 {f : Frame} (h : f = fr2 f.part f.node f.cycle f.mask f.ages) : tD f ↔ (0 ≤ f.part ∧ f.part < 6 ∧ 0 ≤ f.node ∧ f.node < 12 ∧ 0 ≤ f.cycle ∧ f.cycle ≤ 1099511627776 ∧ 0 ≤ f.mask ∧ f.mask < 4096 ∧ nJ f.ages) := by
 have hk : f.kind = 2 := congrArg Frame.kind h
 constructor
 ·rintro ⟨a, b, c, d, k | k | k | k | k⟩
  all_goals first | exact ⟨a, b, c, d, k.2⟩ | (exfalso; have k2 := congrArg Frame.kind k.1; simp only [fr1, fr2, fr3, fr4, fr5] at k2; omega)
 ·rintro ⟨a, b, c, d, k⟩
  exact ⟨a, b, c, d, .inr (.inl ⟨h, k⟩)⟩
theorem bB9 {f : Frame} (h : f = fr3 f.part f.node f.link f.flag f.cycle f.offset) : tD f ↔ (0 ≤ f.part ∧ f.part < 6 ∧ 0 ≤ f.node ∧ f.node < 12 ∧ 0 ≤ f.link ∧ f.link < 10 ∧ 0 ≤ f.cycle ∧ f.cycle ≤ 1099511627776 ∧ -1099511627776 ≤ f.offset ∧ f.offset ≤ 1099511627776) := by
 have hk : f.kind = 3 := congrArg Frame.kind h
 constructor
 ·rintro ⟨a, b, c, d, k | k | k | k | k⟩
  all_goals first | exact ⟨a, b, c, d, k.2⟩ | (exfalso; have k2 := congrArg Frame.kind k.1; simp only [fr1, fr2, fr3, fr4, fr5] at k2; omega)
 ·rintro ⟨a, b, c, d, k⟩
  exact ⟨a, b, c, d, .inr (.inr (.inl ⟨h, k⟩))⟩
theorem bBa {f : Frame} (h : f = fr4 f.part f.node f.link f.ages) : tD f ↔ (0 ≤ f.part ∧ f.part < 6 ∧ 0 ≤ f.node ∧ f.node < 12 ∧ 0 ≤ f.link ∧ f.link < 10 ∧ nJ f.ages) := by
 have hk : f.kind = 4 := congrArg Frame.kind h
 constructor
 ·rintro ⟨a, b, c, d, k | k | k | k | k⟩
  all_goals first | exact ⟨a, b, c, d, k.2⟩ | (exfalso; have k2 := congrArg Frame.kind k.1; simp only [fr1, fr2, fr3, fr4, fr5] at k2; omega)
 ·rintro ⟨a, b, c, d, k⟩
  exact ⟨a, b, c, d, .inr (.inr (.inr (.inl ⟨h, k⟩)))⟩
theorem bBb {f : Frame} (h : f = fr5 f.part f.node f.link f.frm f.to f.seq f.body) : tD f ↔ (0 ≤ f.part ∧ f.part < 6 ∧ 0 ≤ f.node ∧ f.node < 12 ∧ 0 ≤ f.link ∧ f.link < 10 ∧ 0 ≤ f.frm ∧ f.frm < 6 ∧ 0 ≤ f.to ∧ f.to < 6 ∧ 1 ≤ f.seq ∧ f.seq ≤ 2147483648 ∧ f.body.length ≤ 24) := by
 have hk : f.kind = 5 := congrArg Frame.kind h
 constructor
 ·rintro ⟨a, b, c, d, k | k | k | k | k⟩
  all_goals first | exact ⟨a, b, c, d, k.2⟩ | (exfalso; have k2 := congrArg Frame.kind k.1; simp only [fr1, fr2, fr3, fr4, fr5] at k2; omega)
 ·rintro ⟨a, b, c, d, k⟩
  exact ⟨a, b, c, d, .inr (.inr (.inr (.inr (⟨h, k⟩))))⟩
theorem aCv {f : Frame} (h : tD f) : spare f = f ∧ 1 ≤ f.kind ∧ f.kind ≤ 5 := by
 obtain ⟨_, _, _, _, h⟩ := h
 rcases h with h | h | h | h | h
 all_goals (
  have hk := congrArg Frame.kind h.1
  simp only [fr1, fr2, fr3, fr4, fr5] at hk
  refine ⟨?_, by omega, by omega⟩
  unfold spare
  simp only [hk, Int.reduceEq, if_true, if_false]
  exact h.1.symm)
theorem lT {f : Frame} {m : Nat} (h : f.ages.length ≤ m) : (spare f).ages.length ≤ m := by
 unfold spare
 repeat' split
 all_goals first | exact h | exact Nat.zero_le _
theorem aR5 {f : Frame} (h : 1 ≤ f.kind ∧ f.kind ≤ 5) : vK f = spare f := by
 unfold vK spare
 by_cases h5 : f.kind = 5
 ·simp only [if_pos h5]
 ·by_cases h4 : f.kind = 4
  ·simp only [if_pos h4]
  ·by_cases h3 : f.kind = 3
   ·simp only [if_pos h3]
   ·by_cases h2 : f.kind = 2
    ·simp only [if_pos h2]
    ·by_cases h1 : f.kind = 1
     ·simp only [if_pos h1]
     ·omega
set_option maxHeartbeats 8000000 in
theorem aOe {s : Option Nat} {H : aB} {f : Frame} (hl : f.ages.length ≤ 140737488355328) (hb : f.body.length ≤ 140737488355328) : Call tab s xW [f.v] H = some (.bool (decide (tD f)), H) := by
 by_cases hk : 1 ≤ f.kind ∧ f.kind ≤ 5
 rotate_left
 ·rw [decide_eq_false (fun h => hk (aCv h).2)]
  have hk2 : decide (1 ≤ f.kind ∧ f.kind ≤ 5) = false := decide_eq_false hk
  unfold Frame.v
  ((first | refine aC ?_ | skip); refine bE (cf := bW) rfl rfl rfl rfl ?_; unfold bW; dsimp only [aA, Nat.reduceAdd, Nat.zero_add])
  repeat' (first | refine aF ?_ | refine yc ?_ (ha := by first | exact aAd | exact pS hl (lT hl) | exact iB | exact gF | exact rI | assumption) | refine sG (fun _ => ?_) fun _ => ?_ | refine aG ?_ | refine sH (fun _ => ?_) fun _ => ?_ | fail)
  all_goals first | rfl | (exfalso; omega)
 have hk2 : decide (1 ≤ f.kind ∧ f.kind ≤ 5) = true := decide_eq_true hk
 have hrk := aR5 hk
 have hsp : ∀ s H, Call tab s rP [f.v] H = some ((spare f).v, H) := fun s H => by rw [← hrk]; exact aAd
 by_cases hs : spare f = f
 rotate_left
 ·rw [decide_eq_false (fun h => hs (aCv h).1)]
  have hs3 : ¬ f = spare f := fun e => hs e.symm
  have hs2 : decide (f = spare f) = false := decide_eq_false hs3
  unfold Frame.v
  ((first | refine aC ?_ | skip); refine bE (cf := bW) rfl rfl rfl rfl ?_; unfold bW; dsimp only [aA, Nat.reduceAdd, Nat.zero_add])
  repeat' (first | refine aF ?_ | refine yc ?_ (ha := by first | exact hsp _ _ | exact pS hl (lT hl) | exact iB | exact gF | exact rI | assumption) | refine sG (fun _ => ?_) fun _ => ?_ | refine aG ?_ | refine sH (fun _ => ?_) fun _ => ?_ | fail)
  all_goals first | rfl | (exfalso; omega)
 have hs3 : f = spare f := hs.symm
 have hs2 : decide (f = spare f) = true := decide_eq_true hs3
 by_cases h1 : f.kind = 1
 ·have hf : f = fr1 f.part f.node f.wait := by
   have e := hs.symm
   unfold spare at e
   simp only [h1, Int.reduceEq, if_true, if_false] at e
   exact e
  rw [show decide (tD f) = decide _ from decide_eq_decide.2 (bB7 hf)]
  have z_mask : f.mask = 0 := congrArg Frame.mask hf
  have z_link : f.link = 0 := congrArg Frame.link hf
  have z_flag : f.flag = false := congrArg Frame.flag hf
  have z_cycle : f.cycle = 0 := congrArg Frame.cycle hf
  have z_offset : f.offset = 0 := congrArg Frame.offset hf
  have z_ages : f.ages = [] := congrArg Frame.ages hf
  have z_frm : f.frm = 0 := congrArg Frame.frm hf
  have z_to : f.to = 0 := congrArg Frame.to hf
  have z_seq : f.seq = 0 := congrArg Frame.seq hf
  have z_body : f.body = [] := congrArg Frame.body hf
  have z_bl : f.body.length = 0 := by rw [z_body]; rfl
  unfold Frame.v
  ((first | refine aC ?_ | skip); refine bE (cf := bW) rfl rfl rfl rfl ?_; unfold bW; dsimp only [aA, Nat.reduceAdd, Nat.zero_add])
  repeat' (first | refine aF ?_ | refine yc ?_ (ha := by first | exact hsp _ _ | exact pS hl (lT hl) | exact iB | exact gF | exact rI | assumption) | refine sG (fun _ => ?_) fun _ => ?_ | refine aG ?_ | refine sH (fun _ => ?_) fun _ => ?_ | fail)
  all_goals first | (first | (with_reducible rfl) | (simp only [Option.some.injEq, Prod.mk.injEq, V.bool.injEq, V.tup.injEq, V.int.injEq, List.cons.injEq, and_true, true_and]; first | done | (rw [Bool.eq_iff_iff]; simp only [decide_eq_true_eq, Bool.false_eq_true, Bool.true_eq_false, false_iff, iff_false, true_iff, iff_true, Bool.not_eq_true, decide_eq_false_iff_not, Bool.and_eq_true, Bool.or_eq_true]; omega) | omega))
 by_cases h2 : f.kind = 2
 ·have hf : f = fr2 f.part f.node f.cycle f.mask f.ages := by
   have e := hs.symm
   unfold spare at e
   simp only [h2, Int.reduceEq, if_true, if_false] at e
   exact e
  rw [show decide (tD f) = decide _ from decide_eq_decide.2 (bB8 hf)]
  have z_wait : f.wait = 0 := congrArg Frame.wait hf
  have z_link : f.link = 0 := congrArg Frame.link hf
  have z_flag : f.flag = false := congrArg Frame.flag hf
  have z_offset : f.offset = 0 := congrArg Frame.offset hf
  have z_frm : f.frm = 0 := congrArg Frame.frm hf
  have z_to : f.to = 0 := congrArg Frame.to hf
  have z_seq : f.seq = 0 := congrArg Frame.seq hf
  have z_body : f.body = [] := congrArg Frame.body hf
  have z_bl : f.body.length = 0 := by rw [z_body]; rfl
  by_cases ha : nJ f.ages
  ·have ha2 : decide (nJ f.ages) = true := decide_eq_true ha
   simp only [ha, and_true]
   unfold Frame.v
   ((first | refine aC ?_ | skip); refine bE (cf := bW) rfl rfl rfl rfl ?_; unfold bW; dsimp only [aA, Nat.reduceAdd, Nat.zero_add])
   repeat' (first | refine aF ?_ | refine yc ?_ (ha := by first | exact hsp _ _ | exact pS hl (lT hl) | exact iB | exact gF | exact rI | assumption) | refine sG (fun _ => ?_) fun _ => ?_ | refine aG ?_ | refine sH (fun _ => ?_) fun _ => ?_ | fail)
   all_goals (try rw [ha2])
   all_goals first | (first | (with_reducible rfl) | (simp only [Option.some.injEq, Prod.mk.injEq, V.bool.injEq, V.tup.injEq, V.int.injEq, List.cons.injEq, and_true, true_and]; first | done | (rw [Bool.eq_iff_iff]; simp only [decide_eq_true_eq, Bool.false_eq_true, Bool.true_eq_false, false_iff, iff_false, true_iff, iff_true, Bool.not_eq_true, decide_eq_false_iff_not, Bool.and_eq_true, Bool.or_eq_true]; omega) | omega))
  ·have ha2 : decide (nJ f.ages) = false := decide_eq_false ha
   simp only [ha, and_false, decide_false]
   unfold Frame.v
   ((first | refine aC ?_ | skip); refine bE (cf := bW) rfl rfl rfl rfl ?_; unfold bW; dsimp only [aA, Nat.reduceAdd, Nat.zero_add])
   repeat' (first | refine aF ?_ | refine yc ?_ (ha := by first | exact hsp _ _ | exact pS hl (lT hl) | exact iB | exact gF | exact rI | assumption) | refine sG (fun _ => ?_) fun _ => ?_ | refine aG ?_ | refine sH (fun _ => ?_) fun _ => ?_ | fail)
   all_goals (try rw [ha2])
   all_goals first | (first | (with_reducible rfl) | (simp only [Option.some.injEq, Prod.mk.injEq, V.bool.injEq, V.tup.injEq, V.int.injEq, List.cons.injEq, and_true, true_and]; first | done | (rw [Bool.eq_iff_iff]; simp only [decide_eq_true_eq, Bool.false_eq_true, Bool.true_eq_false, false_iff, iff_false, true_iff, iff_true, Bool.not_eq_true, decide_eq_false_iff_not, Bool.and_eq_true, Bool.or_eq_true]; omega) | omega))
 by_cases h3 : f.kind = 3
 ·have hf : f = fr3 f.part f.node f.link f.flag f.cycle f.offset := by
   have e := hs.symm
   unfold spare at e
   simp only [h3, Int.reduceEq, if_true, if_false] at e
   exact e
  rw [show decide (tD f) = decide _ from decide_eq_decide.2 (bB9 hf)]
  have z_wait : f.wait = 0 := congrArg Frame.wait hf
  have z_mask : f.mask = 0 := congrArg Frame.mask hf
  have z_ages : f.ages = [] := congrArg Frame.ages hf
  have z_frm : f.frm = 0 := congrArg Frame.frm hf
  have z_to : f.to = 0 := congrArg Frame.to hf
  have z_seq : f.seq = 0 := congrArg Frame.seq hf
  have z_body : f.body = [] := congrArg Frame.body hf
  have z_bl : f.body.length = 0 := by rw [z_body]; rfl
  unfold Frame.v
  ((first | refine aC ?_ | skip); refine bE (cf := bW) rfl rfl rfl rfl ?_; unfold bW; dsimp only [aA, Nat.reduceAdd, Nat.zero_add])
  repeat' (first | refine aF ?_ | refine yc ?_ (ha := by first | exact hsp _ _ | exact pS hl (lT hl) | exact iB | exact gF | exact rI | assumption) | refine sG (fun _ => ?_) fun _ => ?_ | refine aG ?_ | refine sH (fun _ => ?_) fun _ => ?_ | fail)
  all_goals first | (first | (with_reducible rfl) | (simp only [Option.some.injEq, Prod.mk.injEq, V.bool.injEq, V.tup.injEq, V.int.injEq, List.cons.injEq, and_true, true_and]; first | done | (rw [Bool.eq_iff_iff]; simp only [decide_eq_true_eq, Bool.false_eq_true, Bool.true_eq_false, false_iff, iff_false, true_iff, iff_true, Bool.not_eq_true, decide_eq_false_iff_not, Bool.and_eq_true, Bool.or_eq_true]; omega) | omega))
 by_cases h4 : f.kind = 4
 ·have hf : f = fr4 f.part f.node f.link f.ages := by
   have e := hs.symm
   unfold spare at e
   simp only [h4, Int.reduceEq, if_true, if_false] at e
   exact e
  rw [show decide (tD f) = decide _ from decide_eq_decide.2 (bBa hf)]
  have z_wait : f.wait = 0 := congrArg Frame.wait hf
  have z_mask : f.mask = 0 := congrArg Frame.mask hf
  have z_flag : f.flag = false := congrArg Frame.flag hf
  have z_cycle : f.cycle = 0 := congrArg Frame.cycle hf
  have z_offset : f.offset = 0 := congrArg Frame.offset hf
  have z_frm : f.frm = 0 := congrArg Frame.frm hf
  have z_to : f.to = 0 := congrArg Frame.to hf
  have z_seq : f.seq = 0 := congrArg Frame.seq hf
  have z_body : f.body = [] := congrArg Frame.body hf
  have z_bl : f.body.length = 0 := by rw [z_body]; rfl
  by_cases ha : nJ f.ages
  ·have ha2 : decide (nJ f.ages) = true := decide_eq_true ha
   simp only [ha, and_true]
   unfold Frame.v
   ((first | refine aC ?_ | skip); refine bE (cf := bW) rfl rfl rfl rfl ?_; unfold bW; dsimp only [aA, Nat.reduceAdd, Nat.zero_add])
   repeat' (first | refine aF ?_ | refine yc ?_ (ha := by first | exact hsp _ _ | exact pS hl (lT hl) | exact iB | exact gF | exact rI | assumption) | refine sG (fun _ => ?_) fun _ => ?_ | refine aG ?_ | refine sH (fun _ => ?_) fun _ => ?_ | fail)
   all_goals (try rw [ha2])
   all_goals first | (first | (with_reducible rfl) | (simp only [Option.some.injEq, Prod.mk.injEq, V.bool.injEq, V.tup.injEq, V.int.injEq, List.cons.injEq, and_true, true_and]; first | done | (rw [Bool.eq_iff_iff]; simp only [decide_eq_true_eq, Bool.false_eq_true, Bool.true_eq_false, false_iff, iff_false, true_iff, iff_true, Bool.not_eq_true, decide_eq_false_iff_not, Bool.and_eq_true, Bool.or_eq_true]; omega) | omega))
  ·have ha2 : decide (nJ f.ages) = false := decide_eq_false ha
   simp only [ha, and_false, decide_false]
   unfold Frame.v
   ((first | refine aC ?_ | skip); refine bE (cf := bW) rfl rfl rfl rfl ?_; unfold bW; dsimp only [aA, Nat.reduceAdd, Nat.zero_add])
   repeat' (first | refine aF ?_ | refine yc ?_ (ha := by first | exact hsp _ _ | exact pS hl (lT hl) | exact iB | exact gF | exact rI | assumption) | refine sG (fun _ => ?_) fun _ => ?_ | refine aG ?_ | refine sH (fun _ => ?_) fun _ => ?_ | fail)
   all_goals (try rw [ha2])
   all_goals first | (first | (with_reducible rfl) | (simp only [Option.some.injEq, Prod.mk.injEq, V.bool.injEq, V.tup.injEq, V.int.injEq, List.cons.injEq, and_true, true_and]; first | done | (rw [Bool.eq_iff_iff]; simp only [decide_eq_true_eq, Bool.false_eq_true, Bool.true_eq_false, false_iff, iff_false, true_iff, iff_true, Bool.not_eq_true, decide_eq_false_iff_not, Bool.and_eq_true, Bool.or_eq_true]; omega) | omega))
 by_cases h5 : f.kind = 5
 ·have hf : f = fr5 f.part f.node f.link f.frm f.to f.seq f.body := by
   have e := hs.symm
   unfold spare at e
   simp only [h5, Int.reduceEq, if_true, if_false] at e
   exact e
  rw [show decide (tD f) = decide _ from decide_eq_decide.2 (bBb hf)]
  have z_wait : f.wait = 0 := congrArg Frame.wait hf
  have z_mask : f.mask = 0 := congrArg Frame.mask hf
  have z_flag : f.flag = false := congrArg Frame.flag hf
  have z_cycle : f.cycle = 0 := congrArg Frame.cycle hf
  have z_offset : f.offset = 0 := congrArg Frame.offset hf
  have z_ages : f.ages = [] := congrArg Frame.ages hf
  unfold Frame.v
  ((first | refine aC ?_ | skip); refine bE (cf := bW) rfl rfl rfl rfl ?_; unfold bW; dsimp only [aA, Nat.reduceAdd, Nat.zero_add])
  repeat' (first | refine aF ?_ | refine yc ?_ (ha := by first | exact hsp _ _ | exact pS hl (lT hl) | exact iB | exact gF | exact rI | assumption) | refine sG (fun _ => ?_) fun _ => ?_ | refine aG ?_ | refine sH (fun _ => ?_) fun _ => ?_ | fail)
  all_goals first | (first | (with_reducible rfl) | (simp only [Option.some.injEq, Prod.mk.injEq, V.bool.injEq, V.tup.injEq, V.int.injEq, List.cons.injEq, and_true, true_and]; first | done | (rw [Bool.eq_iff_iff]; simp only [decide_eq_true_eq, Bool.false_eq_true, Bool.true_eq_false, false_iff, iff_false, true_iff, iff_true, Bool.not_eq_true, decide_eq_false_iff_not, Bool.and_eq_true, Bool.or_eq_true]; omega) | omega))
 omega
end Go.Abs
