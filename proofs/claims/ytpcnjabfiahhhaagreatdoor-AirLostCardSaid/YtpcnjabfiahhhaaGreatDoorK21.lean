/- A part of the proof of RowAirFits, RowAirHeard, RowAirOrder, RowAirLost: lemmas alone, without conditions. -/
import Derived.Test.YtpcnjabfiahhhaaGreatDoorK20
import Derived.Test.YtpcnjabfiahhhaaGreatDoorK13
import Derived.ProofKit
import Derived.OpenShut
import Derived.SizedLaws
import Derived.ChangeOld
import Derived.HandedShaped
import Derived.Test.YtpcnjabfiahhhaaGreatDoorK3
set_option linter.all false
namespace Go.Abs
theorem oX {p : Prop} (h : p := by first | exact aHt rfl | ((repeat (first | exact aVn | apply aVo | (apply aSe; exact rfl))); (first | done | fail))) : p := h
theorem tHX {p : Prop} (h : p := by (repeat (first | exact aVs | (apply x_t; exact rfl; exact inferInstance) | apply x_k | (apply x_m; exact rfl; (focus (exact oX))))); (first | done | fail)) : p := h
theorem tEX {p : Prop} (h : p := by first | exact e_t rfl inferInstance | exact e_k | exact e_m rfl (by exact oX)) : p := h
theorem tHB {p : Prop} (h : p := by (repeat (first | (with_reducible assumption) | exact aWi (by exact aKs) | apply aWj | apply aWk | (apply bAo; (with_reducible assumption)) | exact rfl)); (first | done | fail)) : p := h
theorem tIS {p : Prop} (h : p := by (repeat (first | exact rfl | exact aRf (by (with_reducible assumption)) | exact aRf (by exact aZ4) | apply is_set)); (first | done | fail)) : p := h
theorem aZ4 {p : Prop} (h : p := by first | exact aIk (by first | (with_reducible assumption) | exact rfl) rfl inferInstance rfl | exact aFl (by first | (with_reducible assumption) | exact rfl) rfl inferInstance rfl | exact aMu (by first | (with_reducible assumption) | exact rfl) rfl inferInstance rfl) : p := h
theorem tHC {p : Prop} (h : p := by first | exact rfl | (with_reducible assumption) | (exact aZ4) | ((repeat (first | exact rfl | (with_reducible assumption) | (apply g_ne; (first | decide | omega)) | (apply g_same; (focus (exact tIS))))); (first | done | fail))) : p := h
theorem tSH {p : Prop} (h : p := by (repeat (first | exact aWl (by exact aKs) | (apply aWm; (focus (exact tHB))) | exact aSw | exact rfl)); (first | done | fail)) : p := h
theorem aKs {p : Prop} (h : p := by (repeat (first | exact rfl | apply aWp | apply aWo)); (first | done | fail)) : p := h
theorem aGg {p : Prop} (h : p := by first | (with_reducible assumption) | (show _ * _ + _ + _ = _; exact Nat.add_assoc _ _ _) | (simp only [Int.toNat_natCast, Nat.reduceAdd, Nat.reduceMul, Nat.mul_one, Nat.zero_add, Nat.add_zero]; first | done | rfl) | exact rfl) : p := h
theorem aV8 {p : Prop} (h : p := by first | (simp only [List.set_cons_zero, List.set_cons_succ]; first | done | rfl) | exact rfl) : p := h
theorem tRB {p : Prop} (h : p := by (repeat' (first | assumption | exact fI _ _ | exact aI | exact tH | exact rb_str | exact jI | refine pE ?_ | refine aD ?_ ?_ | refine aT0 ?_ ?_ | refine aT1 ?_ | refine aLf ?_ ?_ | refine aT2 ?_ | (simp only [V.rb]; done) | (simp only [V.rb, V.rbL]; done) | exact Nat.lt_of_lt_of_le (Nat.lt_succ_self _) (Nat.le_of_ble_eq_true rfl) | omega)); (first | done | fail)) : p := h
theorem aVa {p : Prop} (h : p := by first | exact m_none | exact aSx (by first | exact Nat.zero_le _ | (with_reducible assumption) | exact Nat.le_refl _ | (simp only [List.length_append]; first | done | omega))) : p := h
theorem j7 {p : Prop} (h : p := by first | (with_reducible assumption) | omega | (simp only [List.length_append, List.length_cons, List.length_nil]; first | done | omega)) : p := h
theorem aAp {p : Prop} (h : p := by first | (with_reducible assumption) | exact aK6 (by omega) | exact IntWalk.i64_in _ (by omega) | exact rfl) : p := h
theorem tOP {p : Prop} (h : p := by first | (show apply _ .nc [.ptr _ _] _ = _; exact bAk) | (show apply _ (.fa _) [.ptr _ _] _ = _; exact bBj) | (show apply _ .ld [.ptr _ _] _ = _; exact bBk) | (show apply _ (.fa _) [.fp _ _] _ = _; exact aVc) | (show apply _ .ld [.fp _ _] _ = _; exact aVd) | (show apply _ (.bin _) [.int _ _, .int _ _] _ = _; first | exact aVz | exact aW0 | exact aW1 | exact aW2 | exact aW3 | exact aW4 | (show apply _ (.bin .add) _ _ = _; exact aZe) | (show apply _ (.bin .sub) _ _ = _; exact aZf) | (show apply _ (.bin .mul) _ _ = _; exact aZg) | exact aQ0 | exact aMw | exact aXw | exact aV3 | exact aMy | (show apply _ (.bin .quo) _ _ = _; exact aZk) | (show apply _ (.bin .rem) _ _ = _; exact aZl) | (show apply _ (.bin .shl) _ _ = _; exact aZm) | (show apply _ (.bin .shr) _ _ = _; exact aZn)) | (show apply _ (.ix _) [.sl _ _ _, .int _ (Nat.cast _)] _ = _; exact aZd) | (show apply _ (.ix _) [.sl _ _ _, .int _ _] _ = _; exact o_ixi) | (show apply _ (.ix _) [.ar _ _ _ _ _, .int _ _] _ = _; exact aVi) | (show apply _ (.ixa _ _) [.ptr _ _, .int _ _] _ = _; exact aVe) | (show apply _ (.ixa _ _) [.fp _ _, .int _ _] _ = _; exact o_ixafp) | (show apply _ (.len _) _ _ = _; first | exact aWa | exact a_lens | exact aOw | exact aLc) | (show apply _ .st [.ptr _ _, _] _ = _; exact bBl) | (show apply _ (.peq _) _ _ = _; first | exact aSp | exact aW9 | exact a_pnilfp | exact a_pnnfp | exact a_nilnil | exact a_nilnn) | (show apply _ (.bin _) [.str _, .str _] _ = _; first | exact aSu | exact aSv | exact o_sadd) | (show apply _ .b2s _ _ = _; first | exact aTx | exact o_b2s) | (show apply _ (.ldn _) [.ptr _ _] _ = _; exact aZc) | (show apply _ (.ldn _) [.fp _ _] _ = _; exact aR6) | (show apply _ .lv [.ptr _ _] _ = _; exact o_lv) | (show apply _ (.bld _ _) _ _ = _; exact aZi) | (show apply _ (.bsl _ _ 1 _) _ _ = _; exact aVf) | (show apply _ (.bsl _ _ 0 _) _ _ = _; exact a_bsl0) | (show apply _ (.bsl _ _ _ _) _ _ = _; exact aZj) | (show apply _ (.app _ _) [.sl _ (List.length _) (enL _), _] _ = _; exact aVh) | (show apply _ (.app _ _) [.sl _ 0 [], _] _ = _; exact aVg) | (show apply _ (.app _ _) _ _ = _; exact o_app) | (show apply _ (.apv _ _) _ _ = _; first | exact o_apvS | exact o_apv) | (show apply _ (.slc _ false true) [.sl _ (List.length _) (enL _), _] _ = _; exact aR7) | (show apply _ (.slc _ true false) [.sl _ (List.length _) (enL _), _] _ = _; exact o_slloS) | (show apply _ (.slc _ true true) [.sl _ (List.length _) (enL _), _, _] _ = _; exact aR8) | (show apply _ (.apg _ _) [.ar _ _ _ _ _, .ar _ _ _ _ _] _ = _; exact o_apgar) | (show apply _ (.slc _ false true) [.ar _ _ _ _ _, _] _ = _; exact o_slhi) | (show apply _ (.slc _ true false) [.ar _ _ _ _ _, _] _ = _; first | exact o_sllo | exact o_sllo0) | (show apply _ (.slc _ true true) [.ar _ _ _ _ _, _, _] _ = _; exact o_slboth) | (show apply _ (.sl3 _) _ _ = _; exact o_sl3) | (show apply _ (.clr _ _) _ _ = _; exact o_clr) | (show apply _ (.apg _ _) [.nls, .sl _ _ _] _ = _; exact aVj) | (show apply _ (.apg _ _) [.ar _ _ _ _ _, .sl _ _ _] _ = _; first | exact o_apgin | exact jG) | (show apply _ (.box _) _ _ = _; exact aZp) | (show apply _ (.bfp _) _ _ = _; exact o_bfp) | exact aWc | exact a_ncfp | exact aSn | exact aSo | exact aW8 | exact a_kst | (show apply _ (.fld _ none) _ _ = _; exact o_fld) | (show apply _ (.fld _ _) _ _ = _; exact o_fldn) | (show apply _ (.ext _) _ _ = _; exact aZq) | (show apply _ (.cvi _) _ _ = _; exact aZr) | exact bAn | exact a_mn | (show apply _ (.stn _) _ _ = _; exact aZh) | exact a_s2b | exact a_cvs | (show apply _ .ixs _ _ = _; exact o_ixs) | (show apply _ (.un .neg) _ _ = _; exact aZo) | (show apply _ (.un .xor) _ _ = _; first | exact aV4 | exact aRk) | (show apply _ (.mks _ _ _) [.int _ (Nat.cast _), _] _ = _; exact o_mks) | (show apply _ (.mks _ _ _) _ _ = _; exact o_mksi) | (show apply _ (.mkv _ _ _) _ _ = _; exact aY0) | (show apply _ (.mif _) _ _ = _; exact aTj) | (show apply _ (.ieq _) _ _ = _; first | exact aXf | exact aXg | exact aXh | exact aXi) | (show apply _ (.ife _ _) _ _ = _; first | exact aTm | exact aTn | exact aTo) | (show apply _ (.tai _ _ _) _ _ = _; first | exact aTp | exact aTq) | exact aXl | exact aXm | fail) : p := h
theorem tLE {p : Prop} (h : p := by first | exact Nat.le_of_ble_eq_true rfl | (with_reducible assumption) | (simp [*]; done)) : p := h
theorem tDT {p : Prop} (h : p := by first | (with_reducible assumption) | exact aPx (by (with_reducible assumption)) rfl inferInstance | exact enL_ldn1 (by (with_reducible assumption)) rfl inferInstance | exact aDk (by (with_reducible assumption)) rfl inferInstance rfl rfl | (simp only [List.drop_zero, List.drop_succ_cons, List.take_succ_cons, List.take_zero]; first | done | rfl) | exact rfl) : p := h
theorem aZ5 {p : Prop} (h : p := by first | (with_reducible assumption) | (simp only [fB, List.drop_zero, List.drop_succ_cons, List.drop_nil, List.take_succ_cons, List.take_zero, List.length_cons, List.length_nil, Nat.reduceAdd, Nat.zero_add, List.cons_append, List.nil_append, List.append_nil]; first | done | rfl) | exact rfl) : p := h
theorem aRt {p : Prop} (h : p := by (repeat (first | exact aSr | (apply aSs; exact rfl; exact Nat.le_of_ble_eq_true rfl; (focus (exact aV8))) | (apply aOx; (focus (exact aBh)); (focus (exact tLE)); (focus (exact aZ5))))); (first | done | fail)) : p := h
theorem aBh {p : Prop} (h : p := by first | (with_reducible assumption) | exact aTv _ rfl | exact aMt _ rfl | exact rfl | (simp only [List.length_nil, Nat.zero_mul]; done)) : p := h
theorem aZ6 {p : Prop} (h : p := by with_reducible first | exact beq_self_eq_true _ | exact nt_t (beq_self_eq_true _) | exact bne_self_eq_false _ | rfl | exact decide_eq_true (by assumption) | exact decide_eq_false (by assumption) | assumption | exact b_eq (by assumption) | exact b_ne (by assumption) | exact n_eq (by assumption) | exact n_ne (by assumption) | exact Bool.not_true | exact Bool.not_false | exact nt_t (by assumption) | exact nt_f (by assumption)) : p := h
theorem aZ7 {p : Prop} (h : p := by (repeat (first | exact aSz | (apply aOz; (focus (exact tRB))))); (first | done | fail)) : p := h
theorem tLG {p : Prop} (h : p := by first | assumption | exact Nat.zero_le _ | exact Nat.le_refl _ | (simp only [List.length_append, List.length_set, List.length_cons, List.length_nil]; first | done | omega)) : p := h
theorem tKB {p : Prop} (h : p := by (repeat (first | assumption | exact aOy | exact kb_nil | exact kb_all (by exact tLG) | (refine aLe ?_ (by exact tLG)) | (refine aSy ?_ (by exact tRB)) | (refine kb_far ?_ (by exact tLG)))); (first | done | fail)) : p := h
theorem aZ9 {p : Prop} (h : p := by first | exact Nat.le_of_ble_eq_true rfl | exact Nat.le_refl _ | (simp only [List.length_append, List.length_set, List.length_cons, List.length_nil]; first | done | omega)) : p := h
theorem aZa {p : Prop} (h : p := by (repeat (first | exact aLh | exact aLi (by exact aKs) | exact rfl | (apply t_peel; (focus (exact aZ9))))); (first | done | fail)) : p := h
theorem bBg {p : Prop} (h : p := by (repeat (first | exact aVq | exact aSf rfl | (apply aSg; exact rfl))); (first | done | fail)) : p := h
theorem aRu {p : Prop} (h : p := by (repeat (first | exact aVp | (apply aVr; exact rfl) | (apply bAg; exact rfl))); (repeat ((focus (exact bBg)))); (first | done | fail)) : p := h
theorem bBh {p : Prop} (h : p := by (repeat (first | exact aT3 | (apply bAp; exact rfl; exact rfl) | (apply ra_cell; exact rfl; (focus (exact tHB)); (focus (exact tHC)); exact inferInstance; exact rfl) | (apply aLg; exact rfl; (focus (exact tHB)); (focus (exact tDT)); exact rfl; exact rfl; exact inferInstance))); (first | done | fail)) : p := h
theorem tTK {p : Prop} (h : p := by first | exact aLh | exact tk_app rfl | exact tk_app (by exact aKs) | exact aLi (by exact aKs) | (exact aZa)) : p := h
theorem aVb {p : Prop} (h : p := by first | exact bAq | exact tie2 | exact tie3 | exact tie0 | exact rfl) : p := h
theorem bBi {p : Prop} (h : p := by first | (show aN .P _ _ _ _ _ = _; exact f_P (by exact tRB) (by exact aVb)) | (show aN .T _ _ _ _ _ = _; exact f_T (by exact tRB) (by exact aHv (by exact tKB)) (by exact aVb) (by exact tTK)) | exact f_K (by exact aVb)) : p := h
theorem aZb {p : Prop} (h : p := by first | (with_reducible assumption) | omega | (simp only [List.length_append, List.length_cons, List.length_nil, List.length_set]; first | done | omega)) : p := h
section
variable {β : Type} {T : Tab} {s : Option Nat} {H : aB}
theorem bBj {f id o p : Nat} (h : o + f = p := by exact aGg) : apply s (.fa f) [.ptr id o] H = some (.ptr id p, H) := bAj h
theorem aVc {f o p : Nat} {c : List V} (h : o + f = p := by exact aGg) : apply s (.fa f) [.fp c o] H = some (.fp c p, H) := aSk h
theorem bBk {id o : Nat} {cs : List V} {v w : V} (h : H[id]? = some cs := by exact tHB) (hc : cs[o]? = some v := by exact tHC) (d : Dis1 v w := by exact inferInstance) : apply s .ld [.ptr id o] H = some (w, H) := bAl h hc
theorem aVd {o : Nat} {cs : List V} {v w : V} (hc : cs[o]? = some v := by exact tHC) (d : Dis1 v w := by exact inferInstance) : apply s .ld [.fp cs o] H = some (w, H) := aSl hc
theorem aZc {id o n : Nat} {cs ds es : List V} (h : H[id]? = some cs := by exact tHB) (hc : (cs.drop o).take n = ds := by exact tDT) (hl : ds.length = n := by exact aBh) (hn : Nat.beq n 0 = false := by exact rfl) (d : DisL ds es := by exact inferInstance) : apply s (.ldn n) [.ptr id o] H = some (.agg es, H) := aVx h hc hl hn
theorem aR6 {o n : Nat} {cs ds es : List V} (hc : (cs.drop o).take n = ds := by exact tDT) (hl : ds.length = n := by exact aBh) (hn : Nat.beq n 0 = false := by exact rfl) (d : DisL ds es := by exact inferInstance) : apply s (.ldn n) [.fp cs o] H = some (.agg es, H) := aOv hc hl hn
theorem aZd {z n i p : Nat} {w : Option Nat} {c : List V} {k : IntKind} (h : i < n := by exact j7) (hp : i * z = p := by exact aGg) : apply s (.ix z) [.sl w n c, .int k (i : Nat)] H = some (.fp c p, H) := aVy h hp
theorem aVe {z len id o p : Nat} {i : Int} {k : IntKind} (h0 : 0 ≤ i := by exact j7) (h : i < (len : Int) := by exact j7) (hp : o + i.toNat * z = p := by exact aGg) : apply s (.ixa z len) [.ptr id o, .int k i] H = some (.ptr id p, H) := aSm h0 h hp
theorem aZe {k : IntKind} {a b c : Int} (h : k.wrap (a + b) = c := by exact aAp) : apply s (.bin .add) [.int k a, .int k b] H = some (.int k c, H) := aW5 h
theorem aZf {k : IntKind} {a b c : Int} (h : k.wrap (a - b) = c := by exact aAp) : apply s (.bin .sub) [.int k a, .int k b] H = some (.int k c, H) := aW6 h
theorem aZg {k : IntKind} {a b c : Int} (h : k.wrap (a * b) = c := by exact aAp) : apply s (.bin .mul) [.int k a, .int k b] H = some (.int k c, H) := aW7 h
theorem bBl {id o : Nat} {v : V} {cs ds : List V} {H' : aB} (h : H[id]? = some cs := by exact tHB) (ho : (cs[o]?).isSome = true := by exact tIS) (hs : v.single = true := by exact rfl) (hm : bN s id (fun m => v.rb m) = true := by exact aVa) (hd : cs.set o v = ds := by exact aV8) (hH : H.set id ds = H' := by exact tSH) : apply s .st [.ptr id o, v] H = some (.tup [], H') := bAm h ho hs hm hd hH
theorem aZh {n id o : Nat} {xs cs ds : List V} {H' : aB} (h : H[id]? = some cs := by exact tHB) (hx : xs.length = n := by exact aBh) (ho : o + n ≤ cs.length := by exact tLE) (hm : bN s id (fun m => V.rbL m xs) = true := by exact aVa) (hd : fB cs o xs = ds := by exact aZ5) (hH : H.set id ds = H' := by exact tSH) : apply s (.stn n) [.ptr id o, .agg xs] H = some (.tup [], H') := aWd h hx ho hm hd hH
theorem aZi {z : List V} {ps : List (Nat × Nat)} {vs cs : List V} (h : aW z ps vs = some cs := by exact aRt) : apply s (.bld z ps) vs H = some (.agg cs, H) := aWe h
theorem aVf {sz : Nat} {z cs ds : List V} {v : V} (hc : Cells v cs := by exact inferInstance) (hl : cs.length = sz := by exact aBh) (hz : z.length = sz := by exact rfl) (hs : sz ≤ 16777216 := by decide) (d : DisL cs ds := by exact inferInstance) : apply s (.bsl sz z 1 [0]) [v] H = some (.sl (some sz) 1 ds, H) := aSq hl hz hs
theorem aZj {sz len : Nat} {z cs ds : List V} {offs : List Nat} {vs : List V} (hl : len * sz ≤ 16777216 := by decide) (h : aW (kJ z len) (offs.map (·, sz)) vs = some cs := by (simp only [kJ, List.map_cons, List.map_nil, List.cons_append, List.nil_append, List.append_nil]; exact aRt)) (d : DisL cs ds := by exact inferInstance) : apply s (.bsl sz z len offs) vs H = some (.sl (some sz) len ds, H) := by
 simp only [apply, if_pos hl, h, Option.map_some, d.eq]
theorem aVg {z y m : Nat} {w : Option Nat} {ds : List V} (hd : ds.length = m * z := by exact aBh) (hr : m * y ≤ 140737488355328 := by exact j7) : apply s (.app z y) [.sl (some z) 0 [], .sl w m ds] H = some (.sl (some z) m ds, H) := by
 have := aRd (s := s) (H := H) (z := z) (y := y) (n := 0) (m := m) (w := w) (cs := []) (ds := ds) (es := ds) (by simp) hd (by rw [Nat.zero_add]; exact hr) rfl
 rwa [Nat.zero_add] at this
theorem aVh {α : Type} [Cel α] {z y m : Nat} {w : Option Nat} {l xs : List α} {ds : List V} (hf : FoldL α ds xs := by exact inferInstance) (hz : Cel.n α = z := by exact rfl) (hd : ds.length = m * z := by exact aBh) (hp : Nat.beq z 0 = false := by exact rfl) (hr : (l.length + xs.length) * y ≤ 140737488355328 := by exact j7) : apply s (.app z y) [.sl (some z) l.length (enL l), .sl w m ds] H = some (.sl (some z) (l ++ xs).length (enL (l ++ xs)), H) := aTw hf hz hd hp hr
theorem aZk {k : IntKind} {a b c : Int} (h : b ≠ 0 := by first | assumption | omega) (hc : k.wrap (a.tdiv b) = c := by exact aAp) : apply s (.bin .quo) [.int k a, .int k b] H = some (.int k c, H) := by rw [← hc]; exact aXs h
theorem aZl {k : IntKind} {a b c : Int} (h : b ≠ 0 := by first | assumption | omega) (hc : a.tmod b = c := by first | (with_reducible assumption) | exact rfl) : apply s (.bin .rem) [.int k a, .int k b] H = some (.int k c, H) := by rw [← hc]; exact aXt h
theorem aZm {k j : IntKind} {a b p c : Int} (h : 0 ≤ b := by first | assumption | omega) (hp : (2 : Int) ^ (min b.toNat k.bits) = p := by first | exact sh1 | exact sh8 | exact aY4 | exact aY5 | exact aY6 | exact sh2 | exact sh4 | exact sh7 | exact aY1 | exact aY2 | exact aY3 | exact rfl) (hc : k.wrap (a * p) = c := by exact aAp) : apply s (.bin .shl) [.int k a, .int j b] H = some (.int k c, H) := by rw [← hc, ← hp]; exact aXu h
theorem aZn {k j : IntKind} {a b p : Int} (h : 0 ≤ b := by first | assumption | omega) (hp : (2 : Int) ^ (min b.toNat k.bits) = p := by first | exact sh1 | exact sh8 | exact aY4 | exact aY5 | exact aY6 | exact sh2 | exact sh4 | exact sh7 | exact aY1 | exact aY2 | exact aY3 | exact rfl) : apply s (.bin .shr) [.int k a, .int j b] H = some (.int k (a / p), H) := by
 rw [← hp, aXv h, Int.fdiv_eq_ediv_of_nonneg _ (Int.pow_nonneg (by decide))]
theorem aZo {k : IntKind} {a c : Int} (hc : k.wrap (0 - a) = c := by exact aAp) : apply s (.un .neg) [.int k a] H = some (.int k c, H) := by rw [← hc]; exact aXx
theorem aVi {z y n id off r p : Nat} {i : Int} {k : IntKind} (h0 : 0 ≤ i := by exact j7) (h : i < (n : Int) := by exact j7) (hp : off + i.toNat * z = p := by exact aGg) : apply s (.ix z) [.ar y id off n r, .int k i] H = some (.ptr id p, H) := aTy h0 h hp
theorem aZp {n : Nat} {v : V} {cs : List V} (hc : Cells v cs := by exact inferInstance) (hl : cs.length = n := by exact aBh) : apply s (.box n) [v] H = some (.ptr H.length 0, H ++ [cs]) := aWb hl
theorem aZq {i : Nat} {vs : List V} {v : V} (h : vs[i]? = some v := by exact tHC) (hn : v.ntup = some v := by exact rfl) : apply s (.ext i) [.tup vs] H = some (v, H) := aWf h hn
theorem aZr {k j : IntKind} {n m : Int} (h : k.wrap n = m := by exact aAp) : apply s (.cvi k) [.int j n] H = some (.int k m, H) := aWh h
theorem aVj {z y m : Nat} {w : Option Nat} {ds es : List V} (hm : Nat.beq m 0 = false := by exact rfl) (hd : ds.length = m * z := by exact aBh) (hr : m * y ≤ 140737488355328 := by exact j7) (d : DisL ds es := by exact inferInstance) : apply s (.apg z y) [.nls, .sl w m ds] H = some (.ar z H.length 0 m m, H ++ [es]) :=
 aTz (fun k => by subst k; cases hm) hd hr d
theorem jG {z y n m k id : Nat} {w : Option Nat} {us es cs ds : List V} {H' : aB} (hk : k < n + m := by exact j7) (h : H[id]? = some cs := by exact tHB) (hm : bN s id (fun _ => true) = true := by exact aVa) (hu : us.length = m * z := by exact aBh) (d : DisL us es := by exact inferInstance) (hc : cs ≠ [] := by assumption) (hl : n * z ≤ cs.length := by exact j7) (hr : (n + m) * y ≤ 140737488355328 := by exact j7)
 (hd : cs.take (n * z) ++ es = ds := by first | (with_reducible assumption) | exact Eq.refl (_ ++ _)) (hH : H.set id [] = H' := by exact tSH) : apply s (.apg z y) [.ar z id 0 n k, .sl w m us] H = some (.ar z H.length 0 (n + m) (n + m), H' ++ [ds]) := aMz h hm (aXy hu) d hk hc hl hr hd hH
theorem aR7 {α : Type} [Cel α] {l : List α} {z p : Nat} {h : Int} {j : IntKind} (hz : Cel.n α = z := by rfl) (h0 : 0 ≤ h := by exact j7) (h1 : h ≤ (l.length : Int) := by exact j7) (hp : h.toNat = p := by exact aGg) : apply s (.slc z false true) [.sl none l.length (enL l), .int j h] H = some (.sl none (l.take p).length (enL (l.take p)), H) := by rw [← hp]; exact aPy hz h0 h1
theorem aR8 {α : Type} [Cel α] {l : List α} {z p q : Nat} {h k : Int} {i j : IntKind} (hz : Cel.n α = z := by rfl) (h0 : 0 ≤ h := by exact j7) (h1 : h ≤ k := by exact j7) (h2 : k ≤ (l.length : Int) := by exact j7) (hp : h.toNat = p := by exact aGg) (hq : k.toNat - h.toNat = q := by exact aGg) : apply s (.slc z true true) [.sl none l.length (enL l), .int i h, .int j k] H = some (.sl none ((l.drop p).take q).length (enL ((l.drop p).take q)), H) := by rw [← hq, ← hp]; exact aPz hz h0 h1 h2
def GC (c : Bool) (A B : Prop) : Prop := (c = true → A) ∧ (c = false → B)
theorem aZs {c : Bool} {A B : Prop} (h : A) (hc : c = true) : GC c A B := ⟨fun _ => h, fun k => (by rw [hc] at k; cases k)⟩
theorem aZt {c : Bool} {A B : Prop} (h : B) (hc : c = false) : GC c A B := ⟨fun k => (by rw [hc] at k; cases k), fun _ => h⟩
theorem bBm {p : Prop} [Decidable p] {A B : Prop} (h1 : p → A) (h2 : ¬ p → B) : GC (decide p) A B := ⟨fun k => h1 (of_decide_eq_true k), fun k => h2 (of_decide_eq_false k)⟩
theorem aVk {c : Bool} {A B : Prop} (h : GC c B A) : GC (!c) A B := ⟨fun k => h.2 (by cases c <;> first | rfl | cases k), fun k => h.1 (by cases c <;> first | rfl | cases k)⟩
theorem aZu {p : Prop} [Decidable p] {A B : Prop} (h : A) (hp : p := by exact aZb) : GC (decide p) A B := aZs h (decide_eq_true hp)
theorem aZv {p : Prop} [Decidable p] {A B : Prop} (h : B) (hp : ¬ p := by exact aZb) : GC (decide p) A B := aZt h (decide_eq_false hp)
theorem aZw {c : Bool} {A B : Prop} (h : A) (hc : c = true := by exact aZ6) : GC c A B := aZs h hc
theorem aZx {c : Bool} {A B : Prop} (h : B) (hc : c = false := by exact aZ6) : GC c A B := aZt h hc
abbrev gX {c : Bool} {A B : Prop} : Prop := GC (!c) A B
abbrev gD {p : Prop} {i : Decidable p} {A B : Prop} : Prop := GC (@decide p i) A B
abbrev gE {p q : Int} {A B : Prop} : Prop := GC (p == q) A B
abbrev gN {p q : Int} {A B : Prop} : Prop := GC (p != q) A B
abbrev gA {c : Bool} {A B : Prop} : Prop := GC c A B
abbrev zz {T : Tab} {s : Option Nat} {rs : List (Option Nat × Option (Nat × Bool) × I)} {e : aQ} {H : aB} {κ : aQ × aB → Option β} {Y : Option β → Prop} : Prop := Ev (RR T s rs e H κ) Y
section
variable {T : Tab} {s : Option Nat} {d g n u : Nat} {i : I} {o : O} {x a b : X} {f : FuncId} {xs : List X} {rs : List (Option Nat × Option (Nat × Bool) × I)} {e : aQ} {H : aB} {κ : aQ × aB → Option β} {Y : Option β → Prop}
abbrev zo : Prop := Ev (RR T s ((some d, none, .op o xs) :: rs) e H κ) Y
abbrev zf : Prop := Ev (RR T s ((some d, some (g, false), i) :: rs) e H κ) Y
abbrev zt : Prop := Ev (RR T s ((some d, some (g, true), i) :: rs) e H κ) Y
abbrev zm : Prop := Ev (RR T s ((some d, none, .mv x) :: rs) e H κ) Y
abbrev zr : Prop := Ev (RR T s [] e H κ) Y
abbrev zc : Prop := Ev (RR T s ((some d, none, .call f xs 0) :: rs) e H κ) Y
abbrev zn : Prop := Ev (RR T s ((some d, none, .call f xs n) :: rs) e H κ) Y
abbrev zO : Prop := Ev (RR T s ((none, none, .op o xs) :: rs) e H κ) Y
abbrev ze : Prop := Ev (RR T s ((some d, none, .exm n u) :: rs) e H κ) Y
abbrev zp : Prop := Ev (RR T s ((some d, none, .pick x a b) :: rs) e H κ) Y
abbrev zC : Prop := Ev (RR T s ((none, none, .call f xs 0) :: rs) e H κ) Y
abbrev zv : Prop := Ev (RR T s ((some d, none, .cav x xs) :: rs) e H κ) Y
abbrev zV : Prop := Ev (RR T s ((none, none, .cav x xs) :: rs) e H κ) Y
abbrev zF : Prop := Ev (RR T s ((none, some (g, false), i) :: rs) e H κ) Y
abbrev zT : Prop := Ev (RR T s ((none, some (g, true), i) :: rs) e H κ) Y
end
section
variable {T : Tab} {s : Option Nat} {c k : C} {x : X} {l m p : List Nat} {q : List (Nat × Nat × Nat × Nat)} {rs : List (Option Nat × Option (Nat × Bool) × I)} {e : aQ} {H : aB} {κ : oY → Option β} {Y : Option β → Prop}
abbrev zR : Prop := Ev (R T s c e H κ) Y
abbrev zs : Prop := Ev (R T s (.seq c k) e H κ) Y
abbrev zg : Prop := Ev (R T s (.reg l q m p rs) e H κ) Y
abbrev zd : Prop := Ev (R T s (.cnd x c k) e H κ) Y
end
abbrev zj {x : β} {r : Option β} : Prop := Ev (some x) (Is r)
theorem bBn {d q : Nat} {c : Bool} {i : I} {rs} {e e1 : aQ} {κ : aQ × aB → Option β} {Y : Option β → Prop} (h : GC c (Ev (RR T s rs ((d, .tup []) :: e1) H κ) Y) (Ev (RR T s ((some d, none, i) :: rs) e H κ) Y)) (hg : g e q = some (.bool c) := by exact rfl) (hd : aX e d = e1 := by exact oX) : Ev (RR T s ((some d, some (q, false), i) :: rs) e H κ) Y := by
 cases c
 ·exact aVw hg rfl (h.2 rfl)
 ·exact aSi hg rfl hd (h.1 rfl)
theorem bBo {d q : Nat} {c : Bool} {i : I} {rs} {e e1 : aQ} {κ : aQ × aB → Option β} {Y : Option β → Prop} (h : GC c (Ev (RR T s ((some d, none, i) :: rs) e H κ) Y) (Ev (RR T s rs ((d, .tup []) :: e1) H κ) Y)) (hg : g e q = some (.bool c) := by exact rfl) (hd : aX e d = e1 := by exact oX) : Ev (RR T s ((some d, some (q, true), i) :: rs) e H κ) Y := by
 cases c
 ·exact aSj hg rfl hd (h.2 rfl)
 ·exact aVv hg rfl (h.1 rfl)
theorem aZy {d q : Nat} {w : Bool} {vs : List V} {i : I} {rs} {e e1 : aQ} {κ : aQ × aB → Option β} {Y : Option β → Prop} (h : Ev (RR T s rs ((d, .tup []) :: e1) H κ) Y) (hg : g e q = some (.tup vs) := by exact rfl) (hd : aX e d = e1 := by exact oX) : Ev (RR T s ((some d, some (q, w), i) :: rs) e H κ) Y := by
 rw [A7] at hg
 refine xD (e1 := (d, .tup []) :: e1) (H1 := H) ?_ h
 simp only [lA, hg, ← hd]; rfl
theorem bBp {d : Nat} {x a b : X} {c : Bool} {rs} {e e1 : aQ} {κ : aQ × aB → Option β} {Y : Option β → Prop} (h : GC c (Ev (RR T s ((some d, none, .mv a) :: rs) e1 H κ) Y) (Ev (RR T s ((some d, none, .mv b) :: rs) e1 H κ) Y)) (hx : eI x e = some (.bool c, e1) := by exact tEX) : Ev (RR T s ((some d, none, .pick x a b) :: rs) e H κ) Y := by
 have e2 : step (orc T) s (.pick x a b) e H = step (orc T) s (.mv (if c then a else b)) e1 H := by
  simp only [step, hx, Option.bind_some]
 have e3 : ∀ i, RR T s ((some d, none, i) :: rs) e H κ = ((step (orc T) s i e H).bind fun q => RR T s rs (pD q.2.1 (some d) q.1) q.2.2 κ) := by
  intro i; show ((lA (orc T) s (some d, none, i) _ H).bind fun q => lB (orc T) s rs q.1 q.2).bind κ = _; rw [mY]; cases step (orc T) s i _ H <;> rfl
 have e4 : ∀ i, RR T s ((some d, none, i) :: rs) e1 H κ = ((step (orc T) s i e1 H).bind fun q => RR T s rs (pD q.2.1 (some d) q.1) q.2.2 κ) := by
  intro i; show ((lA (orc T) s (some d, none, i) _ H).bind fun q => lB (orc T) s rs q.1 q.2).bind κ = _; rw [mY]; cases step (orc T) s i _ H <;> rfl
 rw [e3, e2]
 cases c
 ·refine Ev.of ?_ (h.2 rfl); rw [e4]; rfl
 ·refine Ev.of ?_ (h.1 rfl); rw [e4]; rfl
theorem aZz {x : X} {a b : C} {e e1 : aQ} {κ : oY → Option β} {Y : Option β → Prop} {c : Bool} (h : GC c (Ev (R T s a e1 H κ) Y) (Ev (R T s b e1 H κ) Y)) (hx : eI x e = some (.bool c, e1) := by exact tEX) : Ev (R T s (.cnd x a b) e H κ) Y := aYb hx h.1 h.2
theorem bA0 {d : Nat} {x : X} {rs} {e e1 e2 : aQ} {v : V} {κ : aQ × aB → Option β} {Y : Option β → Prop} (k : Ev (RR T s rs ((d, v) :: e2) H κ) Y) (hx : eI x e = some (v, e1) := by exact tEX) (hd : aX e1 d = e2 := by exact oX) : Ev (RR T s ((some d, none, .mv x) :: rs) e H κ) Y := bAi hx hd k
theorem tF {d : Nat} {o : O} {xs : List X} {rs} {e e1 e2 : aQ} {H1 : aB} {vs : List V} {v : V} {κ : aQ × aB → Option β} {Y : Option β → Prop} (k : Ev (RR T s rs ((d, v) :: e2) H1 κ) Y) (hx : dB xs e = some (vs, e1) := by exact tHX) (ha : apply s o vs H = some (v, H1) := by exact tOP) (hw : (!o.writes || gK e1) = true := by exact rfl) (hd : aX e1 d = e2 := by exact oX) :
 Ev (RR T s ((some d, none, .op o xs) :: rs) e H κ) Y := bAh hx ha hw hd k
theorem bA1 {o : O} {xs : List X} {rs} {e e1 : aQ} {H1 : aB} {vs : List V} {v : V} {κ : aQ × aB → Option β} {Y : Option β → Prop} (k : Ev (RR T s rs e1 H1 κ) Y) (hx : dB xs e = some (vs, e1) := by exact tHX) (ha : apply s o vs H = some (v, H1) := by exact tOP) (hw : (!o.writes || gK e1) = true := by exact rfl) :
 Ev (RR T s ((none, none, .op o xs) :: rs) e H κ) Y := aVt hx ha hw k
theorem cI {d : Nat} {f : FuncId} {xs : List X} {rs} {e e1 e2 : aQ} {H1 : aB} {vs : List V} {v : V} {κ : aQ × aB → Option β} {Y : Option β → Prop} (k : Ev (RR T s rs ((d, v) :: e2) H1 κ) Y) (hx : dB xs e = some (vs, e1) := by exact tHX) (ha : Call T s f vs H = some (v, H1) := by assumption) (hw : (T.pu f || gK e1) = true := by exact rfl) (hd : aX e1 d = e2 := by exact oX) :
 Ev (RR T s ((some d, none, .call f xs 0) :: rs) e H κ) Y := aSh hx ha hw hd k
theorem eZ {d nw : Nat} {f : FuncId} {xs : List X} {rs} {e e1 e2 : aQ} {H1 : aB} {vs : List V} {v : V} {κ : aQ × aB → Option β} {Y : Option β → Prop} (k : Ev (RR T s rs ((d, v) :: e2) H1 κ) Y) (hx : dB xs e = some (vs, e1) := by exact tHX) (ha : Call T s f vs H = some (v, H1) := by assumption) (hn : okN nw vs H H1 = true := by first | exact aG8 _ _ _ | exact okN_app | assumption | exact okN_1 (by assumption) | exact okN_2 (by assumption) | exact oG (by assumption)) (hw : (T.pu f || gK e1) = true := by exact rfl) (hd : aX e1 d = e2 := by exact oX) :
 Ev (RR T s ((some d, none, .call f xs nw) :: rs) e H κ) Y := aOu hx ha hn hw hd k
theorem bA2 {a b : Bool} (h : a = true) : (a || b) = true := by rw [h]; rfl
theorem kF {d : Nat} {f : FuncId} {caps caps' : List V} {x : X} {xs : List X} {rs} {e e0 e1 e2 : aQ} {H1 : aB} {vs : List V} {v : V} {κ : aQ × aB → Option β} {Y : Option β → Prop} (k : Ev (RR T s rs ((d, v) :: e2) H1 κ) Y) (hf : eI x e = some (.fn f caps, e0) := by exact tEX) (hx : dB xs e0 = some (vs, e1) := by exact tHX) (hk : DisL caps caps' := by exact inferInstance) (ha : Call T s f (vs ++ caps') H = some (v, H1) := by assumption) (hw : (T.pu f || gK e1) = true := by first | exact rfl | exact bA2 (by assumption)) (hd : aX e1 d = e2 := by exact oX) :
 Ev (RR T s ((some d, none, .cav x xs) :: rs) e H κ) Y := by
 refine xD ?_ k
 simp only [mY, step, hf, hx, Option.bind_some, hk.eq, hw, if_true, ha, Option.map_some, sN, vB, hd]
theorem bA3 {d i t : Nat} {rs} {e e1 e2 : aQ} {vs ws : List V} {v w : V} {κ : aQ × aB → Option β} {Y : Option β → Prop} (k : Ev (RR T s rs ((d, v) :: e2) H κ) Y) (h : g e t = some (.tup vs) := by exact rfl) (hv : vs[i]? = some v := by exact rfl) (hn : v.ntup = some v := by exact rfl) (dw : Dis2 v w := by exact inferInstance) (hs : vs.set i w = ws := by exact aV8) (he : aX e t = e1 := by exact oX) (hd : aX ((t, .tup ws) :: e1) d = e2 := by exact oX) :
 Ev (RR T s ((some d, none, .exm i t) :: rs) e H κ) Y := aVu h hv hn hs he hd k
theorem aRv {keep : List Nat} {conf : List (Nat × Nat × Nat × Nat)} {free fps : List Nat} {κ : oY → Option β} {e e1 : aQ} {Y : Option β → Prop} (k : Ev (κ (.nrm, e1, H)) Y) (h : (nK conf e && hU free e && sS fps e) = true := by first | exact rfl | (simp [nK, hU, sS, fK, eget, far, *]; done) | (simp [nK, hU, sS, fK, eget, far]; omega)) (h1 : aZ keep e = e1 := by exact aRu) : Ev (RR T s [] e H (dE keep conf free fps κ)) Y := aIl h h1 k
theorem aR9 {l : Nat} {c : C} {e : aQ} {G L : aB} {κ : oY → Option β} {Y : Option β → Prop} (h : Ev (R T (some l) (.loop c) e H κ) Y) (hl : l ≤ G.length := by exact tLG) (hm : H.length = G.length := by exact aKs) (he : e.all (fun p => p.2.rb G.length) = true := by exact aZ7) (hk : KB l G H := by exact tKB) : Ev (lV T (some l) c G κ (.nrm, e, H ++ L)) Y := oR (aWn hl hm he hk) h
theorem cV {c : C} {e : aQ} {G : aB} {κ : oY → Option β} {Y : Option β → Prop} (h : Ev (R T s (.loop c) e H κ) Y) (hm : H.length ≤ G.length := by first | exact Nat.le_refl _ | (simp; done)) : Ev (lV T s c G κ (.nrm, e, H)) Y := oR (R8 hm) h
theorem wG {l : Nat} {c : C} {e : aQ} {G H1 : aB} {κ : oY → Option β} {Y : Option β → Prop} (h : Ev (R T (some l) (.loop c) e H1 κ) Y) (hl : l ≤ G.length := by exact tLG) (he : e.all (fun p => p.2.rb G.length) = true := by exact aZ7) (hm : G.length ≤ H.length := by exact aZ9) (hH : H.take G.length = H1 := by exact aZa) (hk : KB l G H := by exact tKB) : Ev (lV T (some l) c G κ (.nrm, e, H)) Y := oR (by rw [aRe hl he hm hk, hH]) h
def mP (m : Mode) (rs : List Rs) (s : Option Nat) (H H0 : aB) : oY → Option (V × aB) := fun r => match r.1 with
 | .exit _ => none
 | _ => (aP r.2.1 r.2.2 rs).bind fun vs => aN m s H H0 vs r.2.2
abbrev zk {m : Mode} {rs : List Rs} {s : Option Nat} {H H0 : aB} {o : oY} {Y : Option (V × aB) → Prop} : Prop := Ev (mP m rs s H H0 o) Y
theorem bA4 {ex : Ex} {m : Mode} {rs : List Rs} {H0 H1 : aB} {e : aQ} {r : Option (V × aB)} {Y : Option (V × aB) → Prop} {vs : List V} (k : Ev (r) Y) (hx : ex = .nrm ∨ ex = .ret := by first | exact .inl rfl | exact .inr rfl) (h : aP e H1 rs = some vs := by exact bBh) (q : aN m s H H0 vs H1 = r := by exact bBi) : Ev (mP m rs s H H0 (ex, e, H1)) Y := by
 rcases hx with rfl | rfl <;> (show Ev ((aP e H1 rs).bind _) Y; rw [h]; exact Ev.of q k)
theorem bBq {f : FuncId} {args : List V} {H0 : aB} {cf : CF} {Y : Option (V × aB) → Prop} (hp : T.prim f = none) (hc : T.code f = some cf) (ha : args.length = cf.np) (hm : cf.mode = .P) (hb : V.rbL 0 args = true)
 (h : Ev (R T (some 0) cf.body (aA 0 args) [] (mP .P cf.res s H [])) Y) : Ev (Call T s f args H) Y := aU5 (H0 := H0) hp hc ha hm hb (by
 rw [← hm] at h; exact h)
theorem z9 {f : FuncId} {args : List V} {cf : CF} {Y : Option (V × aB) → Prop} (hp : T.prim f = none) (hc : T.code f = some cf) (ha : args.length = cf.np) (hm : cf.mode = .P) (hb : V.rbL 0 args = false)
 (h : Ev (R T (some H.length) cf.body (aA 0 args) H (mP .P cf.res s H H)) Y) : Ev (Call T s f args H) Y := aU6 hp hc ha hm hb (by
 rw [← hm] at h; exact h)
theorem bBr {f : FuncId} {args as : List V} {cf : CF} {Y : Option (V × aB) → Prop} (hp : T.prim f = none) (hc : T.code f = some cf) (ha : args.length = cf.np) (hm : cf.mode = .F) (hf : args.map (gL H 0) = as) (hb : V.rbL 0 as = true)
 (h : Ev (R T (some 0) cf.body (aA 0 as) [] (mP .F cf.res s H [])) Y) : Ev (Call T s f args H) Y := aU8 hp hc ha hm hf hb (by
 rw [← hm] at h; exact h)
theorem eE {f : FuncId} {args : List V} {cf : CF} {Y : Option (V × aB) → Prop} (hp : T.prim f = none) (hc : T.code f = some cf) (ha : args.length = cf.np) (hm : cf.mode ≠ .P ∧ cf.mode ≠ .F)
 (h : Ev (R T s cf.body (aA 0 args) H (mP cf.mode cf.res s H H)) Y) : Ev (Call T s f args H) Y := aU7 hp hc ha hm h
end
end Go.Abs
namespace Go.Abs
open Go.RowKit (Below)
open Go.ChangeShapes Go.WideShapes
inductive Ty where
 | bool
 | int (k : IntKind)
 | str
 | sl (e : Ty)
 | st (fs : List Ty)
 | arr (n : Nat) (e : Ty)
mutual
def tC : Ty → List V → Prop
 | .bool, cs => ∃ b, cs = [.bool b]
 | .int k, cs => ∃ n, cs = [.int k n] ∧ (Lit.int k n).wf = true
 | .str, cs => ∃ s : List UInt8, cs = [.str s] ∧ s.length ≤ 140737488351232
 | .sl e, cs => ∃ es : List (List V), cs = [.sl none es.length es.flatten] ∧ es.length ≤ 140737488351232 ∧ ∀ x ∈ es, tC e x
 | .st fs, cs => TyL fs cs
 | .arr n e, cs => ∃ es : List (List V), cs = es.flatten ∧ es.length = n ∧ ∀ x ∈ es, tC e x
def TyL : List Ty → List V → Prop
 | [], cs => cs = []
 | t :: ts, cs => ∃ a b, cs = a ++ b ∧ tC t a ∧ TyL ts b
end
def Ty.isAgg : Ty → Bool
 | .st _ | .arr .. => true
 | _ => false
def TyA (t : Ty) (v : V) : Prop := if t.isAgg then ∃ cs, v = .agg cs ∧ tC t cs else tC t [v]
def aDt : List Ty → List V → Prop
 | [], vs => vs = []
 | t :: ts, vs => ∃ v r, vs = v :: r ∧ TyA t v ∧ aDt ts r
mutual
def xQ (P : Program) : Ty → TypeId → Bool
 | .bool, t => match P.underlying t with | some .bool => true | _ => false
 | .int k, t => match P.underlying t with | some (.int j) => j == k | _ => false
 | .str, t => match P.underlying t with | some .string => true | _ => false
 | .sl e, t => match P.underlying t with | some (.slice u) => xQ P e u && decide (0 < P.cellsOf u) && decide (0 < P.bytesOf u) | _ => false
 | .st fs, t => match P.underlying t with | some (.struct gs) => C7 P fs gs.toList 0 (P.cellsOf t) | _ => false
 | .arr n e, t => match P.underlying t with | some (.array m u) => m == n && xQ P e u && P.cellsOf t == n * P.cellsOf u | _ => false
def C7 (P : Program) : List Ty → List Field → Nat → Nat → Bool
 | [], [], o, n => o == n
 | t :: ts, g :: gs, o, n => g.offset == o && xQ P t g.type && C7 P ts gs (o + P.cellsOf g.type) n
 | _, _, _, _ => false
end
def aCn (P : Program) : List Ty → List TypeId → Bool
 | [], [] => true
 | t :: ts, u :: us => xQ P t u && aCn P ts us
 | _, _ => false
section
variable {H : Type} {enc : TypeId × Value → H} {P : Program} {w : World}
def yL (w : World) (b o : Nat) : Prop := (w.cell? ⟨b, o, none⟩).isSome = true
def Plain (w : World) (vs : List V) (cs : List Value) : Prop := RepL (yL w) [] w vs cs ∧ ∀ v ∈ vs, v.single = true ∧ v.dis1 = v
theorem Plain.append {vs us : List V} {cs ds : List Value} (h : Plain w vs cs) (k : Plain w us ds) : Plain w (vs ++ us) (cs ++ ds) :=
 ⟨kQ h.1 k.1, fun v hv => (List.mem_append.1 hv).elim (h.2 v) (k.2 v)⟩
theorem Plain.nil : Plain w [] [] := ⟨by simp [RepL], by simp⟩
theorem Plain.len {vs : List V} {cs : List Value} (h : Plain w vs cs) : vs.length = cs.length := ((aK _ _).1 h.1).1
theorem Plain.one {v : V} {c : Value} (h : Rep (yL w) [] w v c) (hs : v.single = true) (hd : v.dis1 = v) : Plain w [v] [c] :=
 ⟨by simp only [RepL]; exact ⟨c, [], rfl, h, rfl⟩, by simp; exact ⟨hs, hd⟩⟩
theorem Plain.cells {vs : List V} {cs : List Value} (h : Plain w vs cs) {b o : Nat} (hc : ∀ (j : Nat) c, cs[j]? = some c → w.cell? ⟨b, o + j, none⟩ = some c) : RepC (yL w) [] w vs b o := by
 rw [kP]
 intro j v hj
 obtain ⟨hl, hr⟩ := (aK _ _).1 h.1
 obtain ⟨hjl, _⟩ := List.getElem?_eq_some_iff.1 hj
 have hcj : cs[j]? = some cs[j] := List.getElem?_eq_getElem (by omega)
 have := hc j _ hcj
 exact ⟨by unfold yL; rw [this]; rfl, (h.2 v (List.mem_of_getElem? hj)).1, _, this, hr j v _ hj hcj⟩
theorem RepC.append {S bl} {vs us : List V} {b o : Nat} (h : RepC S bl w vs b o) (k : RepC S bl w us b (o + vs.length)) : RepC S bl w (vs ++ us) b o := by
 rw [kP] at h k ⊢
 intro j v hj
 by_cases hl : j < vs.length
 ·rw [List.getElem?_append_left hl] at hj; exact h j v hj
 ·rw [List.getElem?_append_right (by omega)] at hj
  have := k _ v hj
  rwa [show o + vs.length + (j - vs.length) = o + j by omega] at this
theorem RepC.nil' {S bl} {b o : Nat} : RepC S bl w [] b o := by simp only [RepC]
theorem M3 {sz b o : Nat} : ∀ (n : Nat) (k : Nat) (Q : List V → Prop), (∀ i, i < n → ∃ vs cs, Q vs ∧ Plain w vs cs ∧ cs.length = sz ∧ ∀ (j : Nat) c, cs[j]? = some c → w.cell? ⟨b, o + (k + i) * sz + j, none⟩ = some c) →
 ∃ es : List (List V), es.length = n ∧ (∀ x ∈ es, Q x) ∧ RepC (yL w) [] w es.flatten b (o + k * sz) ∧ es.flatten.length = n * sz
 | 0, k, Q, _ => ⟨[], rfl, by simp, RepC.nil', by simp⟩
 | n + 1, k, Q, h => by
   obtain ⟨vs, cs, h1, h2, h3, h4⟩ := h 0 (by omega)
   obtain ⟨es, e1, e2, e3, e4⟩ := M3 n (k + 1) Q fun i hi => by
    obtain ⟨vs, cs, a1, a2, a3, a4⟩ := h (i + 1) (by omega)
    exact ⟨vs, cs, a1, a2, a3, fun j c hj => by have := a4 j c hj; rwa [show k + (i + 1) = k + 1 + i by omega] at this⟩
   refine ⟨vs :: es, by simp [e1], ?_, ?_, ?_⟩
   ·intro x hx
    rcases List.mem_cons.1 hx with rfl | hx
    ·exact h1
    ·exact e2 x hx
   ·rw [List.flatten_cons]
    refine RepC.append (h2.cells fun j c hj => by have := h4 j c hj; rwa [Nat.add_zero] at this) ?_
    rw [h2.len, h3]
    rwa [Nat.add_mul, Nat.one_mul, ← Nat.add_assoc] at e3
   ·rw [List.flatten_cons, List.length_append, e4, h2.len, h3, Nat.add_mul]; omega
theorem Z2 {a : Addr} {n : Nat} {cs : List Value} {base : Nat} (h : w.cells? base a n = some cs) : cs.length = n ∧ ∀ i, i < n → w.cell? (a.add i) = cs[i]? := by
 unfold World.cells? at h
 split at h
 ·have h1 := mapM_some_length h
  refine ⟨by simpa using h1, fun i hi => ?_⟩
  exact mapM_some_get h i i (by simp [hi])
 ·cases h
theorem C8 {cs : List Value} {n : Nat} : ∀ (ts : List Ty) (gs : List Field) (o : Nat), C7 P ts gs o n = true → n = cs.length →
 (∀ (i : Nat) (t : Ty) (g : Field), ts[i]? = some t → gs[i]? = some g → ∃ vs, tC t vs ∧ Plain w vs ((cs.drop g.offset).take (P.cellsOf g.type)) ) →
 ∃ vs, TyL ts vs ∧ Plain w vs (cs.drop o)
 | [], [], o, hok, hn, _ => by
   simp only [C7, beq_iff_eq] at hok
   refine ⟨[], by simp only [TyL], ?_⟩
   rw [List.drop_of_length_le (by omega)]
   exact Plain.nil
 | [], _ :: _, _, hok, _, _ => by simp [C7] at hok
 | _ :: _, [], _, hok, _, _ => by simp [C7] at hok
 | t :: ts, g :: gs, o, hok, hn, h => by
   simp only [C7, Bool.and_eq_true, beq_iff_eq] at hok
   obtain ⟨⟨rfl, _⟩, hok⟩ := hok
   obtain ⟨vs, h1, h2⟩ := h 0 t g rfl rfl
   obtain ⟨us, k1, k2⟩ := C8 ts gs _ hok hn fun i t' g' ht hg => h (i + 1) t' g' (by simpa using ht) (by simpa using hg)
   refine ⟨vs ++ us, by simp only [TyL]; exact ⟨vs, us, rfl, h1, k1⟩, ?_⟩
   have := h2.append k2
   rwa [← List.drop_drop, List.take_append_drop] at this
theorem M4 {cs : List Value} {sz : Nat} {Q : List V → Prop} : ∀ (n k : Nat), cs.length = (k + n) * sz → (∀ i, i < n → ∃ vs, Q vs ∧ Plain w vs ((cs.drop ((k + i) * sz)).take sz)) →
 ∃ es : List (List V), es.length = n ∧ (∀ x ∈ es, Q x) ∧ Plain w es.flatten (cs.drop (k * sz))
 | 0, k, hl, _ => ⟨[], rfl, by simp, by rw [List.drop_of_length_le (by rw [hl]; exact Nat.le_refl _)]; exact Plain.nil⟩
 | n + 1, k, hl, h => by
   obtain ⟨vs, h1, h2⟩ := h 0 (by omega)
   obtain ⟨es, e1, e2, e3⟩ := M4 (Q := Q) n (k + 1) (by rw [hl]; congr 1; omega) fun i hi => by
    have := h (i + 1) (by omega)
    rwa [show k + (i + 1) = k + 1 + i by omega] at this
   refine ⟨vs :: es, by simp [e1], ?_, ?_⟩
   ·intro x hx
    rcases List.mem_cons.1 hx with rfl | hx
    ·exact h1
    ·exact e2 x hx
   ·rw [List.flatten_cons]
    have := h2.append e3
    rwa [Nat.add_zero, Nat.add_mul, Nat.one_mul, ← List.drop_drop, List.take_append_drop] at this
theorem aCo : ∀ {ts : List Ty} {gs : List Field} {o n : Nat}, C7 P ts gs o n = true → ∀ (i : Nat) (t : Ty) (g : Field), ts[i]? = some t → gs[i]? = some g → xQ P t g.type = true
 | [], _, _, _, _, i, t, g, ht, _ => by simp at ht
 | _ :: _, [], _, _, _, i, t, g, _, hg => by simp at hg
 | t :: ts, g :: gs, o, n, h, i, t', g', ht, hg => by
   simp only [C7, Bool.and_eq_true] at h
   cases i with
   | zero => simp at ht hg; subst ht; subst hg; exact h.1.2
   | succ i => exact aCo h.2 i t' g' (by simpa using ht) (by simpa using hg)
theorem aHb {ts : List Ty} {i : Nat} {t : Ty} (h : ts[i]? = some t) : SizeOf.sizeOf t < SizeOf.sizeOf ts := List.sizeOf_lt_of_mem (List.mem_of_getElem? h)
theorem sP {e : TypeId} : ∀ {l : List (DataW H)} {d : DataW H} {n : Nat}, d ∈ l → n ∈ d.weights P e → n ∈ DataW.weightsAll P e l
 | [], _, _, h, _ => by cases h
 | c :: l, d, n, h, hn => by
   rw [DataW.weightsAll, List.mem_append]
   rcases List.mem_cons.1 h with rfl | h
   ·exact .inl hn
   ·exact .inr (sP h hn)
theorem yM : ∀ {ts : List TypeId} {l : List (DataW H)} {i : Nat} {t : TypeId} {d : DataW H} {n : Nat}, ts[i]? = some t → l[i]? = some d → n ∈ d.weights P t → n ∈ DataW.weightsEach P ts l
 | [], _, i, _, _, _, h, _, _ => by simp at h
 | _ :: _, [], i, _, _, _, _, h, _ => by simp at h
 | t :: ts, c :: l, 0, u, d, n, ht, hd, hn => by
   simp only [List.getElem?_cons_zero, Option.some.injEq] at ht hd
   subst ht; subst hd
   rw [DataW.weightsEach, List.mem_append]; exact .inl hn
 | t :: ts, c :: l, i + 1, u, d, n, ht, hd, hn => by
   rw [DataW.weightsEach, List.mem_append]; exact .inr (yM (by simpa using ht) (by simpa using hd) hn)
theorem xR {held : Bool} : ∀ (ty : Ty) (t : TypeId) (fuel : Nat) (cs : List Value) (x : DataW H × List MemPlace), xQ P ty t = true → DataW.trod enc P w 0 (fun _ => true) held fuel t cs = some x → (∀ n ∈ x.1.weights P t, n ≤ reachBytes) →
 ∃ vs, tC ty vs ∧ Plain w vs cs
 | .bool, t, fuel, cs, x, hok, h, hw => by
   simp only [xQ] at hok
   split at hok
   ·rename_i ht
    obtain ⟨b, rfl, _⟩ := DataW.trod_bool ht h
    exact ⟨[.bool b], by simp only [tC]; exact ⟨b, rfl⟩, Plain.one (fY ..) rfl rfl⟩
   ·cases hok
 | .int k, t, fuel, cs, x, hok, h, hw => by
   simp only [xQ] at hok
   split at hok
   ·rename_i j ht
    simp only [beq_iff_eq] at hok
    subst hok
    obtain ⟨n, rfl, _, hwf⟩ := DataW.trod_int ht h
    exact ⟨[.int j n], by simp only [tC]; exact ⟨n, rfl, hwf⟩, Plain.one (fN ..) rfl rfl⟩
   ·cases hok
 | .str, t, fuel, cs, x, hok, h, hw => by
   simp only [xQ] at hok
   split at hok
   ·rename_i ht
    obtain ⟨s, rfl, rfl, hs⟩ := DataW.trod_string ht h
    have hb := hw s.data.toList.length (by simp [DataW.weights])
    exact ⟨[.str s.data.toList], by simp only [tC]; exact ⟨_, rfl, hb⟩, Plain.one (aQe ..) rfl rfl⟩
   ·cases hok
 | .st fs, t, fuel, cs, x, hok, h, hw => by
   simp only [xQ] at hok
   split at hok
   ·rename_i gs ht
    obtain ⟨xs, m, rfl, rfl, hl, hlen, hf⟩ := DataW.trod_struct ht h
    simp only [DataW.weights, ht] at hw
    obtain ⟨vs, k1, k2⟩ := C8 (w := w) (cs := cs) fs gs.toList 0 hok hl.symm fun i ty g hty hg => by
     have hg' : gs[i]? = some g := by simpa using hg
     have hti := hf i g hg'
     have hil : i < xs.length := by rw [hlen]; exact (Array.getElem?_eq_some_iff.1 hg').1
     rw [List.getElem?_eq_getElem hil] at hti
     have : SizeOf.sizeOf ty < SizeOf.sizeOf fs := aHb hty
     exact xR ty g.type m _ _ (aCo hok i ty g hty hg) hti fun n hn => hw n (yM (i := i) (by simp [hg']) (by simp [hil]) hn)
    exact ⟨vs, by simp only [tC]; exact k1, by simpa using k2⟩
   ·cases hok
 | .arr n e, t, fuel, cs, x, hok, h, hw => by
   simp only [xQ] at hok
   split at hok
   ·rename_i m u ht
    simp only [Bool.and_eq_true, beq_iff_eq] at hok
    obtain ⟨⟨rfl, hok⟩, hsz⟩ := hok
    obtain ⟨xs, k, rfl, rfl, hl, hlen, hf⟩ := DataW.trod_array ht h
    simp only [DataW.weights, ht] at hw
    obtain ⟨es, e1, e2, e3⟩ := M4 (w := w) (cs := cs) (sz := P.cellsOf u) (Q := tC e) m 0 (by rw [hl, hsz, Nat.zero_add]) fun i hi => by
     have hti := hf i hi
     rw [List.getElem?_eq_getElem (by omega)] at hti
     rw [Nat.zero_add]
     exact xR e u k _ _ hok hti fun n hn => hw n (sP (List.mem_map.2 ⟨_, List.getElem_mem _, rfl⟩) hn)
    exact ⟨es.flatten, by simp only [tC]; exact ⟨es, rfl, e1, e2⟩, by simpa using e3⟩
   ·cases hok
 | .sl e, t, fuel, cs, x, hok, h, hw => by
   simp only [xQ] at hok
   split at hok
   ·rename_i u ht
    simp only [Bool.and_eq_true, decide_eq_true_eq] at hok
    obtain ⟨⟨hok, hpos⟩, hby⟩ := hok
    rcases DataW.trod_slice ht h with ⟨rfl, _⟩ | ⟨a, len, cap, elems, rest, m, rfl, rfl, rfl, _, hle, hmax, hlen, hel, hsp, _⟩
    ·refine ⟨[.sl none 0 []], by simp only [tC]; exact ⟨[], rfl, by simp, by simp⟩, Plain.one ?_ rfl rfl⟩
     simp only [Rep]
     exact ⟨none, 0, rfl, Nat.le_refl _, by simp, fun ad h => by cases h⟩
    ·simp only [DataW.weights, ht, List.mem_cons, List.mem_append] at hw
     have spot : cap ≠ 0 → a.spot = none := by
      intro hc
      have key : ∀ i y, i = 0 → (w.cells? 0 (a.add (i * P.cellsOf u)) (P.cellsOf u)).bind (DataW.trod enc P w 0 (fun _ => true) held m u) = some y → a.spot = none := by
       rintro i y rfl hy
       obtain ⟨ci, h1, _⟩ := Option.bind_eq_some_iff.1 hy
       obtain ⟨l1, l2⟩ := Z2 h1
       have := l2 0 hpos
       rw [List.getElem?_eq_getElem (by omega)] at this
       have := World.cell?_spot this
       simpa [Addr.add] using this
      by_cases hl0 : 0 < len
      ·have := hel 0 hl0
       rw [List.getElem?_eq_getElem (by omega)] at this
       exact key 0 _ rfl this
      ·obtain ⟨r1, r2⟩ := hsp rfl
       have := r2 0 (by omega)
       rw [List.getElem?_eq_getElem (by omega)] at this
       exact key _ _ (by omega) this
     obtain ⟨es, e1, e2, e3, e4⟩ : ∃ es : List (List V), es.length = len ∧ (∀ x ∈ es, tC e x) ∧ RepC (yL w) [] w es.flatten a.block a.off ∧ es.flatten.length = len * P.cellsOf u := by
      by_cases hc : cap = 0
      ·obtain rfl : len = 0 := by omega
       exact ⟨[], rfl, by simp, RepC.nil', by simp⟩
      ·have := M3 (w := w) (sz := P.cellsOf u) (b := a.block) (o := a.off) len 0 (tC e) fun i hi => by
        have hb := hel i hi
        rw [List.getElem?_eq_getElem (by omega)] at hb
        obtain ⟨ci, h1, h2⟩ := Option.bind_eq_some_iff.1 hb
        obtain ⟨l1, l2⟩ := Z2 h1
        obtain ⟨vs, k1, k2⟩ := xR e u m _ _ hok h2 fun n hn => hw n (.inr (.inl (sP (List.mem_map.2 ⟨_, List.getElem_mem _, rfl⟩) hn)))
        refine ⟨vs, ci, k1, k2, l1, fun j c hj => ?_⟩
        obtain ⟨hjl, _⟩ := List.getElem?_eq_some_iff.1 hj
        have := l2 j (by omega)
        rw [hj] at this
        rw [kS (spot hc), Go.Abs.add_none, Go.Abs.add_none] at this
        rw [Nat.zero_add]
        exact this
       simpa using this
     have hlen47 : len ≤ 140737488351232 := by
      have h1 := hw _ (.inl rfl)
      simp only [List.length_map, hlen, reachBytes] at h1
      have h2 : len * 1 ≤ (len + rest.length) * P.bytesOf u := Nat.mul_le_mul (Nat.le_add_right _ _) hby
      omega
     refine ⟨[.sl none len es.flatten], by simp only [tC]; exact ⟨es, by rw [e1], by rw [e1]; exact hlen47, e2⟩, Plain.one ?_ rfl rfl⟩
     simp only [Rep]
     exact ⟨some a, cap, rfl, hle, (fun k => by cases k), fun ad had => by cases had; exact ⟨spot, e3⟩⟩
   ·cases hok
end
end Go.Abs
namespace Go.Abs
def I64 (n : Int) : Prop := -9223372036854775808 ≤ n ∧ n ≤ 9223372036854775807
theorem aUe {n : Int} (h : (Lit.int .i64 n).wf = true) : I64 n := by
 simpa [Lit.wf, I64, IntKind.min, IntKind.max, IntKind.signed, IntKind.bits] using h
theorem aFr {n : Int} (h : (Lit.int .u8 n).wf = true) : 0 ≤ n ∧ n ≤ 255 := by
 simpa [Lit.wf, IntKind.min, IntKind.max, IntKind.signed, IntKind.bits] using h
theorem uW {k : IntKind} {v : V} (h : TyA (.int k) v) : ∃ n, v = .int k n ∧ (Lit.int k n).wf = true := by
 obtain ⟨n, h1, h2⟩ := (show tC (.int k) [v] from h)
 exact ⟨n, by simpa using h1, h2⟩
theorem aDq {cs : List V} (h : tC (.int .i64) cs) : ∃ n : Int, cs = Cel.enc n ∧ I64 n := by
 obtain ⟨n, rfl, h2⟩ := h
 exact ⟨n, rfl, aUe h2⟩
theorem aRm {cs : List V} (h : tC (.int .u8) cs) : ∃ n : UInt8, cs = Cel.enc n ∧ True := by
 obtain ⟨n, rfl, h2⟩ := h
 have := aFr h2
 refine ⟨UInt8.ofNat n.toNat, ?_, trivial⟩
 show _ = [V.int .u8 ((UInt8.ofNat n.toNat).toNat : Int)]
 have : ((UInt8.ofNat n.toNat).toNat : Int) = n := by rw [UInt8.toNat_ofNat']; omega
 rw [this]
theorem aIq {α : Type} [Cel α] {t : Ty} {ok : α → Prop} (hf : ∀ cs, tC t cs → ∃ x : α, cs = Cel.enc x ∧ ok x) : ∀ es : List (List V), (∀ x ∈ es, tC t x) → ∃ l : List α, es.flatten = enL l ∧ es.length = l.length ∧ ∀ x ∈ l, ok x
 | [], _ => ⟨[], rfl, rfl, by simp⟩
 | e :: es, h => by
   obtain ⟨l, h1, h2, h3⟩ := aIq hf es fun x hx => h x (List.mem_cons_of_mem _ hx)
   obtain ⟨x, rfl, hx⟩ := hf e (h e (List.mem_cons_self ..))
   exact ⟨x :: l, by rw [List.flatten_cons, bL, h1], by simp [h2], by simpa using ⟨hx, h3⟩⟩
theorem aFs {α : Type} [Cel α] {t : Ty} {ok : α → Prop} (hf : ∀ cs, tC t cs → ∃ x : α, cs = Cel.enc x ∧ ok x) {cs : List V} (h : tC (.sl t) cs) : ∃ l : List α, cs = Cel.enc l ∧ (l.length ≤ 140737488351232 ∧ ∀ x ∈ l, ok x) := by
 obtain ⟨es, rfl, h1, h2⟩ := h
 obtain ⟨l, h3, h4, h5⟩ := aIq hf es h2
 exact ⟨l, by rw [h3, h4]; rfl, by omega, h5⟩
theorem aFt {α : Type} [Cel α] {t : Ty} {ok : α → Prop} (hf : ∀ cs, tC t cs → ∃ x : α, cs = Cel.enc x ∧ ok x) {v : V} (h : TyA (.sl t) v) : ∃ l : List α, v = .sl none l.length (enL l) ∧ l.length ≤ 140737488351232 ∧ ∀ x ∈ l, ok x := by
 obtain ⟨l, h1, h2⟩ := aFs hf (show tC (.sl t) [v] from h)
 have h1 : [v] = [V.sl none l.length (enL l)] := h1
 exact ⟨l, by simpa using h1, h2⟩
end Go.Abs
namespace Go.Abs
theorem oZ {α : Type} {l : List α} {i : Nat} (h : i < l.length) : ∃ x, l[i]? = some x := ⟨l[i], List.getElem?_eq_getElem h⟩
theorem kO {α : Type} {l : List α} {i : Nat} {x : α} (h : l[i]? = some x) : l.take i ++ [x] = l.take (i + 1) := by rw [List.take_add_one, h]; rfl
def lk : aQ → Nat → Option V
 | [], _ => none
 | (t, w) :: r, s => bif t == s then some w else lk r s
def eT (vs : aQ) : aQ → aQ
 | [] => []
 | (s, v) :: e => (s, (lk vs s).getD v) :: eT vs e
theorem aJ {β : Type} {T : Tab} {s : Option Nat} {c : C} {e0 e vs : aQ} {H : aB} {κ : oY → Option β} {Y : Option β → Prop} (he : eT vs e0 = e) (h : Ev (R T s (.loop c) e H κ) Y) : Ev (R T s (.loop c) (eT vs e0) H κ) Y := by rw [he]; exact h
theorem oK {β σ : Type} {T : Tab} {s : Option Nat} {c : C} {κ : oY → Option β} {Y : Option β → Prop} {e0 : aQ} {H0 : aB} (n : Nat) (vs : Nat → σ → aQ) (Hs : Nat → σ → aB) (P : Nat → σ → Prop)
 (step : ∀ i t, i < n → P i t → (∀ t', P (i + 1) t' → Ev (R T s (.loop c) (eT (vs (i + 1) t') e0) (Hs (i + 1) t') κ) Y) → Ev (R T s (.loop c) (eT (vs i t) e0) (Hs i t) κ) Y)
 (fin : ∀ t, P n t → Ev (R T s (.loop c) (eT (vs n t) e0) (Hs n t) κ) Y) (t : σ) (h : P 0 t) (he : eT (vs 0 t) e0 = e0 := by first | rfl | (simp only [aL, List.length_nil]; rfl)) (hH : Hs 0 t = H0 := by first | rfl | (simp only [aL, List.length_nil]; rfl)) : Ev (R T s (.loop c) e0 H0 κ) Y :=
 aXz n (fun i t => eT (vs i t) e0) Hs P step fin t h he hH
theorem aF1 {m : Nat} : ∀ {G H : aB}, o7 m G H = true → ∀ (i : Nat) a b, G[i]? = some a → H[i]? = some b → a = b ∨ V.rbL m b = true
 | [], _, _, i, a, b, h1, _ => by simp at h1
 | _ :: _, [], _, i, a, b, _, h2 => by simp at h2
 | g :: G, x :: H, h, i, a, b, h1, h2 => by
   simp only [o7, Bool.and_eq_true, Bool.or_eq_true] at h
   cases i with
   | zero =>
     simp only [List.getElem?_cons_zero, Option.some.injEq] at h1 h2
     subst h1 h2
     rcases h.1.symm with k | k
     ·exact .inl (St.eqL_eq _ _ k)
     ·exact .inr k
   | succ i => exact aF1 h.2 i a b (by simpa using h1) (by simpa using h2)
theorem aPe {l : Nat} {G H : aB} (h : C9 l G H = true) : KB l G H := fun i a b hi h1 h2 =>
 aF1 h (i - l) a b (by rw [List.getElem?_drop, Nat.add_sub_cancel' hi]; exact h1) (by rw [List.getElem?_drop, Nat.add_sub_cancel' hi]; exact h2)
theorem aRi {β : Type} {T : Tab} {l : Nat} {c : C} {e : aQ} {G H : aB} {κ : oY → Option β} {Y : Option β → Prop} (h : ∀ H1, (H1 = H ∨ (H1 = H.take G.length ∧ G.length < H.length ∧ e.all (fun p => p.2.rb G.length) = true ∧ KB l G H)) → Ev (R T (some l) (.loop c) e H1 κ) Y) : Ev (lV T (some l) c G κ (.nrm, e, H)) Y := by
 refine oR (H1 := cK (some l) G e H) rfl (h _ ?_)
 show (if l ≤ G.length ∧ G.length < H.length ∧ e.all (fun p => p.2.rb G.length) = true ∧ C9 l G H = true then H.take G.length else H) = H ∨ _
 by_cases k : l ≤ G.length ∧ G.length < H.length ∧ e.all (fun p => p.2.rb G.length) = true ∧ C9 l G H = true
 ·refine .inr ⟨?_, k.2.1, k.2.2.1, aPe k.2.2.2⟩
  show (if _ then _ else _) = _
  rw [if_pos k]
 ·exact .inl (if_neg k)
end Go.Abs
