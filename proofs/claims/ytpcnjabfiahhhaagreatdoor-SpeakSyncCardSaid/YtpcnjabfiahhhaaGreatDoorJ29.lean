/- A part of the proof of RowSpeakSync: lemmas alone, without conditions. -/
import Derived.Test.YtpcnjabfiahhhaaGreatDoorJ28
import Derived.Test.YtpcnjabfiahhhaaGreatDoorJ24
set_option linter.all false
namespace Go.Abs
open Go.Proofs.YtpcnjabfiahhhaaGreatDoor
attribute [local irreducible] enL R RR gT fU rC gG gU qS apply fW gZ bQ cC fB bN iN bK bG eS cV lA dU V.rb V.rbL
theorem xY (x : Int) (l : List Int) : enL (x :: l) = .int .i64 x :: enL l := by rw [cM]; rfl
section
variable {H : aB} {lm id w : Nat} {b : List UInt8} {x y z : Int}
theorem wU (hid : H[id]? = some (bV b)) (hlm : lm ≤ id) (hw : W4 w) (hx : 0 ≤ x ∧ x < 256 ^ w) (hb : b.length ≤ 1000) :
 Call tab (some lm) aD [.ptr id 0, .int .i64 (w : Int), .sl none 1 [.int .i64 x]] H = some (.tup [], H.set id (bV (b ++ be x w))) := by
 have := S7 (l := [x]) hid hlm hw (by simpa using hx) (by simp) (by omega)
 have e : enL [x] = [V.int .i64 x] := by rw [xY, bJ]
 rw [e] at this
 simpa [beL] using this
theorem aX0 (hid : H[id]? = some (bV b)) (hlm : lm ≤ id) (hw : W4 w) (hx : 0 ≤ x ∧ x < 256 ^ w) (hy : 0 ≤ y ∧ y < 256 ^ w) (hb : b.length ≤ 1000) :
 Call tab (some lm) aD [.ptr id 0, .int .i64 (w : Int), .sl none 2 [.int .i64 x, .int .i64 y]] H = some (.tup [], H.set id (bV (b ++ (be x w ++ be y w)))) := by
 have := S7 (l := [x, y]) hid hlm hw (by simp [hx, hy]) (by simp) (by omega)
 have e : enL [x, y] = [V.int .i64 x, V.int .i64 y] := by rw [xY, xY, bJ]
 rw [e] at this
 simpa [beL] using this
theorem aSu (hid : H[id]? = some (bV b)) (hlm : lm ≤ id) (hw : W4 w) (hx : 0 ≤ x ∧ x < 256 ^ w) (hy : 0 ≤ y ∧ y < 256 ^ w) (hz : 0 ≤ z ∧ z < 256 ^ w) (hb : b.length ≤ 1000) :
 Call tab (some lm) aD [.ptr id 0, .int .i64 (w : Int), .sl none 3 [.int .i64 x, .int .i64 y, .int .i64 z]] H = some (.tup [], H.set id (bV (b ++ (be x w ++ (be y w ++ be z w))))) := by
 have := S7 (l := [x, y, z]) hid hlm hw (by simp [hx, hy, hz]) (by simp) (by omega)
 have e : enL [x, y, z] = [V.int .i64 x, V.int .i64 y, V.int .i64 z] := by rw [xY, xY, xY, bJ]
 rw [e] at this
 simpa [beL] using this
theorem yR (hid : H[id]? = some [.sl (some 1) 0 []]) (hlm : lm ≤ id) (hx : 0 ≤ x ∧ x < 256) (hy : 0 ≤ y ∧ y < 256) (hz : 0 ≤ z ∧ z < 256) :
 Call tab (some lm) aD [.ptr id 0, .int .i64 1, .sl none 3 [.int .i64 x, .int .i64 y, .int .i64 z]] H = some (.tup [], H.set id (bV (be x 1 ++ (be y 1 ++ be z 1)))) := by
 have e : (bV [] : List V) = [.sl (some 1) 0 []] := by unfold bV; rw [bJ]; rfl
 have := aSu (w := 1) (b := []) (by rw [e]; exact hid) hlm (.inl rfl) (by simpa using hx) (by simpa using hy) (by simpa using hz) (by simp)
 simpa using this
theorem Z3 (hid : H[id]? = some (bV b)) (hlm : lm ≤ id) (h0 : -140737488355328 ≤ x) (h1 : x < 140737488355328) (hb : b.length ≤ 1000) :
 Call tab (some lm) fM [.ptr id 0, .int .i64 6, .int .i64 x] H = some (.tup [], H.set id (bV (b ++ be x 6))) := by
 have hl : (be x 6).length = 6 := pJ x 6
 unfold bV at *
 ((first | refine aJ ?_ | skip); refine aI7 (cf := fT) rfl rfl rfl (by decide) ?_; unfold fT; dsimp only [aC, Nat.reduceAdd, Nat.zero_add])
 repeat' (first | refine aS ?_ | refine yc ?_ (ha := by first | exact aD8 h0 h1 | assumption) | (show zn; refine aA ?_ (ha := by first | exact aD8 h0 h1 | assumption)) | (show gA; first | refine aH (fun _ => ?_) fun _ => ?_ | refine gc_E (fun _ => ?_) fun _ => ?_ | refine gc_N (fun _ => ?_) fun _ => ?_ | refine aT ?_ | refine gc_B (fun _ => ?_) fun _ => ?_) | fail)
 simp only [List.set_set, List.set_cons_zero]
set_option maxHeartbeats 1000000 in
theorem G0 {l : List Int} (hid : H[id]? = some (bV b)) (hlm : lm ≤ id) (hl : eP l) (hb : b.length ≤ 100) :
 Call tab (some lm) dA [.ptr id 0, .sl none l.length (enL l)] H = some (.tup [], H.set id (bV (b ++ Z0 l))) := by
 obtain ⟨l1, l2, l3⟩ := hl
 have hlen : id < H.length := (List.getElem?_eq_some_iff.1 hid).1
 have e1 : (be l.length 1).length = 1 := pJ _ 1
 show _ = some (V.tup [], H.set id (bV (b ++ (be l.length 1 ++ mG l))))
 rw [← List.append_assoc]
 ((first | refine aJ ?_ | skip); refine aI7 (cf := hU) rfl rfl rfl (by decide) ?_; unfold hU; dsimp only [aC, Nat.reduceAdd, Nat.zero_add])
 repeat' (first | refine aS ?_ | refine yc ?_ (ha := by first | exact wU (w := 1) hid hlm (by decide) ⟨by omega, by omega⟩ (by omega) | assumption) | (show zn; refine aA ?_ (ha := by first | exact wU (w := 1) hid hlm (by decide) ⟨by omega, by omega⟩ (by omega) | assumption)) | (show gA; first | refine aH (fun _ => ?_) fun _ => ?_ | refine gc_E (fun _ => ?_) fun _ => ?_ | refine gc_N (fun _ => ?_) fun _ => ?_ | refine aT ?_ | refine gc_B (fun _ => ?_) fun _ => ?_) | fail)
 refine yP l.length (fun i (_ : Unit) => [(13, .int .i64 i)]) (fun i _ => H.set id (bV (b ++ be l.length 1 ++ mG (l.take i)))) (fun _ _ => True) ?_ ?_ () trivial rfl (by simp only [List.take_zero, mG, List.flatMap_nil, List.append_nil])
 ·intro i _ hi _ ih
  obtain ⟨x, hx⟩ := yO hi
  have hx2 := l3 x (List.mem_of_getElem? hx)
  have hbl : (mG (l.take i)).length ≤ 6 := by rw [t4, List.length_take]; omega
  rw [J4 hx, ← List.append_assoc] at ih
  have hid2 := aFh (b := bV (b ++ be l.length 1 ++ mG (l.take i))) hid
  have hlen2 : (H.set id (bV (b ++ be l.length 1 ++ mG (l.take i)))).length = H.length := List.length_set ..
  generalize hq : mG (l.take i) = q at *
  have hse : ∀ c, (H.set id (bV (b ++ be l.length 1 ++ q))).set id c = H.set id c := fun c => List.set_set ..
  generalize hG : H.set id (bV (b ++ be l.length 1 ++ q)) = G at *
  have hcap : (b ++ be l.length 1 ++ q).length ≤ 107 := by simp only [List.length_append]; omega
  have hwi : IntKind.i64.wrap ((i : Int) + 1) = ((i + 1 : Nat) : Int) := IntWalk.i64_in _ (by omega)
  have hil : (i : Int) < (l.length : Int) := by omega
  refine cG (by dsimp only [qG, lk, Nat.reduceBEq, cond_true, cond_false, Option.getD_some, Option.getD_none]; first | done | exact rfl) ?_; refine bB ?_
  unfold jI
  repeat' (first | refine aS ?_ | refine yc ?_ (ha := by first | exact wU (w := 1) hid2 hlm (by decide) ⟨by omega, by omega⟩ (by omega) | assumption) | (show zn; refine aA ?_ (ha := by first | exact wU (w := 1) hid2 hlm (by decide) ⟨by omega, by omega⟩ (by omega) | assumption)) | (show gA; first | refine aH (fun _ => ?_) fun _ => ?_ | refine gc_E (fun _ => ?_) fun _ => ?_ | refine gc_N (fun _ => ?_) fun _ => ?_ | refine aT ?_ | refine gc_B (fun _ => ?_) fun _ => ?_) | fail)
  refine jW ?_
  have := ih () trivial
  simp only [List.set_set, hse] at *
  exact this
 ·intro _ _
  rw [List.take_length]
  refine cG (by dsimp only [qG, lk, Nat.reduceBEq, cond_true, cond_false, Option.getD_some, Option.getD_none]; first | done | exact rfl) ?_; refine bB ?_
  unfold jI
  repeat' (first | refine aS ?_ | refine yc ?_ | (show zn; refine aA ?_) | (show gA; first | refine aH (fun _ => ?_) fun _ => ?_ | refine gc_E (fun _ => ?_) fun _ => ?_ | refine gc_N (fun _ => ?_) fun _ => ?_ | refine aT ?_ | refine gc_B (fun _ => ?_) fun _ => ?_) | fail)
  rfl
end
theorem aRf {s : Option Nat} {H : aB} {b : Bool} : Call tab s A3 [.bool b] H = some (.int .i64 (aB0 b), H) := by
 ((first | refine aJ ?_ | skip); refine cB (cf := sY) rfl rfl rfl rfl ?_; unfold sY; dsimp only [aC, Nat.reduceAdd, Nat.zero_add])
 cases b
 all_goals repeat' (first | refine aS ?_ | refine yc ?_ | (show zn; refine aA ?_) | (show gA; first | refine aH (fun _ => ?_) fun _ => ?_ | refine gc_E (fun _ => ?_) fun _ => ?_ | refine gc_N (fun _ => ?_) fun _ => ?_ | refine aT ?_ | refine gc_B (fun _ => ?_) fun _ => ?_) | fail)
 all_goals rfl
theorem aK2 {s : Option Nat} {H : aB} {b : Bool} : Call tab s z7 [.bool b] H = some (.int .i64 (aB0 b), H) := by
 ((first | refine aJ ?_ | skip); refine cB (cf := sK) rfl rfl rfl rfl ?_; unfold sK; dsimp only [aC, Nat.reduceAdd, Nat.zero_add])
 cases b
 all_goals repeat' (first | refine aS ?_ | refine yc ?_ | (show zn; refine aA ?_) | (show gA; first | refine aH (fun _ => ?_) fun _ => ?_ | refine gc_E (fun _ => ?_) fun _ => ?_ | refine gc_N (fun _ => ?_) fun _ => ?_ | refine aT ?_ | refine gc_B (fun _ => ?_) fun _ => ?_) | fail)
 all_goals rfl
end Go.Abs
