/- A part of the proof of RowSpeakOffers, RowSpeakMessages: lemmas alone, without conditions. -/
import Derived.Test.YtpcnjabfiahhhaaGreatDoorK28
import Derived.Test.YtpcnjabfiahhhaaGreatDoorK24
set_option linter.all false
namespace Go.Abs
open Go.Proofs.YtpcnjabfiahhhaaGreatDoor
attribute [local irreducible] enL R RR fP fB pX fK fQ pU apply fT gQ bW bZ eJ bR iL bG bD eC cR kD dO V.rb V.rbL
theorem b9 (x : Int) (l : List Int) : enL (x :: l) = .int .i64 x :: enL l := by rw [bT]; rfl
section
variable {H : aC} {lm id w : Nat} {b : List UInt8} {x y z : Int}
theorem zG (hid : H[id]? = some (bV b)) (hlm : lm ≤ id) (hw : W4 w) (hx : 0 ≤ x ∧ x < 256 ^ w) (hb : b.length ≤ 1000) :
 Call tab (some lm) aF [.ptr id 0, .int .i64 (w : Int), .sl none 1 [.int .i64 x]] H = some (.tup [], H.set id (bV (b ++ be x w))) := by
 have := M8 (l := [x]) hid hlm hw (by simpa using hx) (by simp) (by omega)
 have e : enL [x] = [V.int .i64 x] := by rw [b9, aO]
 rw [e] at this
 simpa [beL] using this
theorem bBk (hid : H[id]? = some (bV b)) (hlm : lm ≤ id) (hw : W4 w) (hx : 0 ≤ x ∧ x < 256 ^ w) (hy : 0 ≤ y ∧ y < 256 ^ w) (hb : b.length ≤ 1000) :
 Call tab (some lm) aF [.ptr id 0, .int .i64 (w : Int), .sl none 2 [.int .i64 x, .int .i64 y]] H = some (.tup [], H.set id (bV (b ++ (be x w ++ be y w)))) := by
 have := M8 (l := [x, y]) hid hlm hw (by simp [hx, hy]) (by simp) (by omega)
 have e : enL [x, y] = [V.int .i64 x, V.int .i64 y] := by rw [b9, b9, aO]
 rw [e] at this
 simpa [beL] using this
theorem aX5 (hid : H[id]? = some (bV b)) (hlm : lm ≤ id) (hw : W4 w) (hx : 0 ≤ x ∧ x < 256 ^ w) (hy : 0 ≤ y ∧ y < 256 ^ w) (hz : 0 ≤ z ∧ z < 256 ^ w) (hb : b.length ≤ 1000) :
 Call tab (some lm) aF [.ptr id 0, .int .i64 (w : Int), .sl none 3 [.int .i64 x, .int .i64 y, .int .i64 z]] H = some (.tup [], H.set id (bV (b ++ (be x w ++ (be y w ++ be z w))))) := by
 have := M8 (l := [x, y, z]) hid hlm hw (by simp [hx, hy, hz]) (by simp) (by omega)
 have e : enL [x, y, z] = [V.int .i64 x, V.int .i64 y, V.int .i64 z] := by rw [b9, b9, b9, aO]
 rw [e] at this
 simpa [beL] using this
theorem j4 (hid : H[id]? = some [.sl (some 1) 0 []]) (hlm : lm ≤ id) (hx : 0 ≤ x ∧ x < 256) (hy : 0 ≤ y ∧ y < 256) (hz : 0 ≤ z ∧ z < 256) :
 Call tab (some lm) aF [.ptr id 0, .int .i64 1, .sl none 3 [.int .i64 x, .int .i64 y, .int .i64 z]] H = some (.tup [], H.set id (bV (be x 1 ++ (be y 1 ++ be z 1)))) := by
 have e : (bV [] : List V) = [.sl (some 1) 0 []] := by unfold bV; rw [aO]; rfl
 have := aX5 (w := 1) (b := []) (by rw [e]; exact hid) hlm (.inl rfl) (by simpa using hx) (by simpa using hy) (by simpa using hz) (by simp)
 simpa using this
theorem aBx (hid : H[id]? = some (bV b)) (hlm : lm ≤ id) (h0 : -140737488355328 ≤ x) (h1 : x < 140737488355328) (hb : b.length ≤ 1000) :
 Call tab (some lm) gJ [.ptr id 0, .int .i64 6, .int .i64 x] H = some (.tup [], H.set id (bV (b ++ be x 6))) := by
 have hl : (be x 6).length = 6 := qM x 6
 unfold bV at *
 ((first | refine aJ ?_ | skip); refine aKp (cf := gL) rfl rfl rfl (by decide) ?_; unfold gL; dsimp only [aB, Nat.reduceAdd, Nat.zero_add])
 repeat' (first | refine aS ?_ | refine yc ?_ (ha := by first | exact aGx h0 h1 | assumption) | (show zn; refine aA ?_ (ha := by first | exact aGx h0 h1 | assumption)) | (show gA; first | refine aH (fun _ => ?_) fun _ => ?_ | refine gc_E (fun _ => ?_) fun _ => ?_ | refine gc_N (fun _ => ?_) fun _ => ?_ | refine aT ?_ | refine gc_B (fun _ => ?_) fun _ => ?_) | fail)
 simp only [List.set_set, List.set_cons_zero]
set_option maxHeartbeats 1000000 in
theorem M0 {l : List Int} (hid : H[id]? = some (bV b)) (hlm : lm ≤ id) (hl : fI l) (hb : b.length ≤ 100) :
 Call tab (some lm) dJ [.ptr id 0, .sl none l.length (enL l)] H = some (.tup [], H.set id (bV (b ++ aBv l))) := by
 obtain ⟨l1, l2, l3⟩ := hl
 have hlen : id < H.length := (List.getElem?_eq_some_iff.1 hid).1
 have e1 : (be l.length 1).length = 1 := qM _ 1
 show _ = some (V.tup [], H.set id (bV (b ++ (be l.length 1 ++ nE l))))
 rw [← List.append_assoc]
 ((first | refine aJ ?_ | skip); refine aKp (cf := iS) rfl rfl rfl (by decide) ?_; unfold iS; dsimp only [aB, Nat.reduceAdd, Nat.zero_add])
 repeat' (first | refine aS ?_ | refine yc ?_ (ha := by first | exact zG (w := 1) hid hlm (by decide) ⟨by omega, by omega⟩ (by omega) | assumption) | (show zn; refine aA ?_ (ha := by first | exact zG (w := 1) hid hlm (by decide) ⟨by omega, by omega⟩ (by omega) | assumption)) | (show gA; first | refine aH (fun _ => ?_) fun _ => ?_ | refine gc_E (fun _ => ?_) fun _ => ?_ | refine gc_N (fun _ => ?_) fun _ => ?_ | refine aT ?_ | refine gc_B (fun _ => ?_) fun _ => ?_) | fail)
 refine xU l.length (fun i (_ : Unit) => [(13, .int .i64 i)]) (fun i _ => H.set id (bV (b ++ be l.length 1 ++ nE (l.take i)))) (fun _ _ => True) ?_ ?_ () trivial rfl (by simp only [List.take_zero, nE, List.flatMap_nil, List.append_nil])
 ·intro i _ hi _ ih
  obtain ⟨x, hx⟩ := xT hi
  have hx2 := l3 x (List.mem_of_getElem? hx)
  have hbl : (nE (l.take i)).length ≤ 6 := by rw [C3, List.length_take]; omega
  rw [S4 hx, ← List.append_assoc] at ih
  have hid2 := aEf (b := bV (b ++ be l.length 1 ++ nE (l.take i))) hid
  have hlen2 : (H.set id (bV (b ++ be l.length 1 ++ nE (l.take i)))).length = H.length := List.length_set ..
  generalize hq : nE (l.take i) = q at *
  have hse : ∀ c, (H.set id (bV (b ++ be l.length 1 ++ q))).set id c = H.set id c := fun c => List.set_set ..
  generalize hG : H.set id (bV (b ++ be l.length 1 ++ q)) = G at *
  have hcap : (b ++ be l.length 1 ++ q).length ≤ 107 := by simp only [List.length_append]; omega
  have hwi : IntKind.i64.wrap ((i : Int) + 1) = ((i + 1 : Nat) : Int) := IntWalk.i64_in _ (by omega)
  have hil : (i : Int) < (l.length : Int) := by omega
  refine cD (by dsimp only [pN, lk, Nat.reduceBEq, cond_true, cond_false, Option.getD_some, Option.getD_none]; first | done | exact rfl) ?_; refine aY ?_
  unfold kE
  repeat' (first | refine aS ?_ | refine yc ?_ (ha := by first | exact zG (w := 1) hid2 hlm (by decide) ⟨by omega, by omega⟩ (by omega) | assumption) | (show zn; refine aA ?_ (ha := by first | exact zG (w := 1) hid2 hlm (by decide) ⟨by omega, by omega⟩ (by omega) | assumption)) | (show gA; first | refine aH (fun _ => ?_) fun _ => ?_ | refine gc_E (fun _ => ?_) fun _ => ?_ | refine gc_N (fun _ => ?_) fun _ => ?_ | refine aT ?_ | refine gc_B (fun _ => ?_) fun _ => ?_) | fail)
  refine jQ ?_
  have := ih () trivial
  simp only [List.set_set, hse] at *
  exact this
 ·intro _ _
  rw [List.take_length]
  refine cD (by dsimp only [pN, lk, Nat.reduceBEq, cond_true, cond_false, Option.getD_some, Option.getD_none]; first | done | exact rfl) ?_; refine aY ?_
  unfold kE
  repeat' (first | refine aS ?_ | refine yc ?_ | (show zn; refine aA ?_) | (show gA; first | refine aH (fun _ => ?_) fun _ => ?_ | refine gc_E (fun _ => ?_) fun _ => ?_ | refine gc_N (fun _ => ?_) fun _ => ?_ | refine aT ?_ | refine gc_B (fun _ => ?_) fun _ => ?_) | fail)
  rfl
end
theorem aTw {s : Option Nat} {H : aC} {b : Bool} : Call tab s G0 [.bool b] H = some (.int .i64 (aDt b), H) := by
 ((first | refine aJ ?_ | skip); refine bX (cf := tG) rfl rfl rfl rfl ?_; unfold tG; dsimp only [aB, Nat.reduceAdd, Nat.zero_add])
 cases b
 all_goals repeat' (first | refine aS ?_ | refine yc ?_ | (show zn; refine aA ?_) | (show gA; first | refine aH (fun _ => ?_) fun _ => ?_ | refine gc_E (fun _ => ?_) fun _ => ?_ | refine gc_N (fun _ => ?_) fun _ => ?_ | refine aT ?_ | refine gc_B (fun _ => ?_) fun _ => ?_) | fail)
 all_goals rfl
theorem aQ7 {s : Option Nat} {H : aC} {b : Bool} : Call tab s F4 [.bool b] H = some (.int .i64 (aDt b), H) := by
 ((first | refine aJ ?_ | skip); refine bX (cf := tK) rfl rfl rfl rfl ?_; unfold tK; dsimp only [aB, Nat.reduceAdd, Nat.zero_add])
 cases b
 all_goals repeat' (first | refine aS ?_ | refine yc ?_ | (show zn; refine aA ?_) | (show gA; first | refine aH (fun _ => ?_) fun _ => ?_ | refine gc_E (fun _ => ?_) fun _ => ?_ | refine gc_N (fun _ => ?_) fun _ => ?_ | refine aT ?_ | refine gc_B (fun _ => ?_) fun _ => ?_) | fail)
 all_goals rfl
end Go.Abs
