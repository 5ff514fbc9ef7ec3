/- A part of the proof of RowSpeakOffers, RowSpeakMessages: lemmas alone, without conditions. -/
import Derived.Test.YtpcnjabfiahhhaaGreatDoorK21
import Derived.Test.YtpcnjabfiahhhaaGreatDoorK13
import Derived.ProofKit
import Derived.OpenShut
import Derived.SizedLaws
import Derived.ChangeOld
import Derived.HandedShaped
import Derived.Test.YtpcnjabfiahhhaaGreatDoorK3
set_option linter.all false
namespace Go.Abs
theorem K8 {p : Prop} (h : p := by first | exact aIr rfl | ((repeat (first | exact aXz | apply aY0 | (apply aUc; exact rfl))); (first | done | fail))) : p := h
theorem tHX {p : Prop} (h : p := by (repeat (first | exact aY4 | (apply x_t; exact rfl; exact inferInstance) | apply x_k | (apply x_m; exact rfl; (focus (exact K8))))); (first | done | fail)) : p := h
theorem tEX {p : Prop} (h : p := by first | exact e_t rfl inferInstance | exact e_k | exact e_m rfl (by exact K8)) : p := h
theorem Y3 {p : Prop} (h : p := by (repeat (first | (with_reducible assumption) | exact aYv (by exact aKn) | apply aYw | apply aYx | (apply bCd; (with_reducible assumption)) | exact rfl)); (first | done | fail)) : p := h
theorem tIS {p : Prop} (h : p := by (repeat (first | exact rfl | exact aTh (by (with_reducible assumption)) | exact aTh (by exact bA9) | apply is_set)); (first | done | fail)) : p := h
theorem bA9 {p : Prop} (h : p := by first | exact aJ2 (by first | (with_reducible assumption) | exact rfl) rfl inferInstance rfl | exact aF1 (by first | (with_reducible assumption) | exact rfl) rfl inferInstance rfl | exact aMo (by first | (with_reducible assumption) | exact rfl) rfl inferInstance rfl) : p := h
theorem tHC {p : Prop} (h : p := by first | exact rfl | (with_reducible assumption) | (exact bA9) | ((repeat (first | exact rfl | (with_reducible assumption) | (apply g_ne; (first | decide | omega)) | (apply g_same; (focus (exact tIS))))); (first | done | fail))) : p := h
theorem tSH {p : Prop} (h : p := by (repeat (first | exact aYy (by exact aKn) | (apply aYz; (focus (exact Y3))) | exact aUr | exact rfl)); (first | done | fail)) : p := h
theorem aKn {p : Prop} (h : p := by (repeat (first | exact rfl | apply aZ3 | apply aZ2)); (first | done | fail)) : p := h
theorem aOj {p : Prop} (h : p := by first | (with_reducible assumption) | (show _ * _ + _ + _ = _; exact Nat.add_assoc _ _ _) | (simp only [Int.toNat_natCast, Nat.reduceAdd, Nat.reduceMul, Nat.mul_one, Nat.zero_add, Nat.add_zero]; first | done | rfl) | exact rfl) : p := h
theorem aSa {p : Prop} (h : p := by first | (simp only [List.set_cons_zero, List.set_cons_succ]; first | done | rfl) | exact rfl) : p := h
theorem tRB {p : Prop} (h : p := by (repeat' (first | assumption | exact iU _ _ | exact aR | exact zN | exact rb_str | exact eK | refine qB ?_ | refine aL ?_ ?_ | refine aUw ?_ ?_ | refine aUx ?_ | refine aMc ?_ ?_ | refine aUy ?_ | (simp only [V.rb]; done) | (simp only [V.rb, V.rbL]; done) | exact Nat.lt_of_lt_of_le (Nat.lt_succ_self _) (Nat.le_of_ble_eq_true rfl) | omega)); (first | done | fail)) : p := h
theorem aSb {p : Prop} (h : p := by first | exact m_none | exact aUs (by first | exact Nat.zero_le _ | (with_reducible assumption) | exact Nat.le_refl _ | (simp only [List.length_append]; first | done | omega))) : p := h
theorem K9 {p : Prop} (h : p := by first | (with_reducible assumption) | omega | (simp only [List.length_append, List.length_cons, List.length_nil]; first | done | omega)) : p := h
theorem T8 {p : Prop} (h : p := by first | (with_reducible assumption) | exact aK9 (by omega) | exact IntWalk.i64_in _ (by omega) | exact rfl) : p := h
theorem tOP {p : Prop} (h : p := by first | (show apply _ .nc [.ptr _ _] _ = _; exact bC8) | (show apply _ (.fa _) [.ptr _ _] _ = _; exact bCs) | (show apply _ .ld [.ptr _ _] _ = _; exact bCt) | (show apply _ (.fa _) [.fp _ _] _ = _; exact aWn) | (show apply _ .ld [.fp _ _] _ = _; exact aWo) | (show apply _ (.bin _) [.int _ _, .int _ _] _ = _; first | exact aYc | exact aYd | exact aYe | exact aYf | exact aYg | exact aYh | (show apply _ (.bin .add) _ _ = _; exact bAg) | (show apply _ (.bin .sub) _ _ = _; exact bAh) | (show apply _ (.bin .mul) _ _ = _; exact bAi) | exact aRz | exact aMq | exact a_bor | exact aW4 | exact aMr | (show apply _ (.bin .quo) _ _ = _; exact bAm) | (show apply _ (.bin .rem) _ _ = _; exact bAn) | (show apply _ (.bin .shl) _ _ = _; exact bAo) | (show apply _ (.bin .shr) _ _ = _; exact bAp)) | (show apply _ (.ix _) [.sl _ _ _, .int _ (Nat.cast _)] _ = _; exact bAe) | (show apply _ (.ix _) [.sl _ _ _, .int _ _] _ = _; exact bAf) | (show apply _ (.ix _) [.ar _ _ _ _ _, .int _ _] _ = _; exact aWt) | (show apply _ (.ixa _ _) [.ptr _ _, .int _ _] _ = _; exact o_ixai) | (show apply _ (.ixa _ _) [.fp _ _, .int _ _] _ = _; exact o_ixafp) | (show apply _ (.len _) _ _ = _; first | exact aYm | exact a_lens | exact aRa | exact aMa) | (show apply _ .st [.ptr _ _, _] _ = _; exact bCv) | (show apply _ (.peq _) _ _ = _; first | exact a_pnil | exact a_pnn | exact a_pnilfp | exact a_pnnfp | exact a_nilnil | exact a_nilnn) | (show apply _ (.bin _) [.str _, .str _] _ = _; first | exact aUq | exact a_sneq | exact o_sadd) | (show apply _ .b2s _ _ = _; first | exact aV6 | exact o_b2s) | (show apply _ (.ldn _) [.ptr _ _] _ = _; exact bAd) | (show apply _ (.ldn _) [.fp _ _] _ = _; exact aSc) | (show apply _ .lv [.ptr _ _] _ = _; exact bCu) | (show apply _ (.bld _ _) _ _ = _; exact bAk) | (show apply _ (.bsl _ _ 1 _) _ _ = _; exact aWp) | (show apply _ (.bsl _ _ 0 _) _ _ = _; exact a_bsl0) | (show apply _ (.bsl _ _ _ _) _ _ = _; exact bAl) | (show apply _ (.app _ _) [.sl _ (List.length _) (enL _), _] _ = _; exact aWr) | (show apply _ (.app _ _) [.sl _ 0 [], _] _ = _; exact aWq) | (show apply _ (.app _ _) _ _ = _; exact o_app) | (show apply _ (.apv _ _) _ _ = _; first | exact aWs | exact o_apv) | (show apply _ (.slc _ false true) [.sl _ (List.length _) (enL _), _] _ = _; exact o_slhiS) | (show apply _ (.slc _ true false) [.sl _ (List.length _) (enL _), _] _ = _; exact o_slloS) | (show apply _ (.slc _ true true) [.sl _ (List.length _) (enL _), _, _] _ = _; exact o_slboS) | (show apply _ (.apg _ _) [.ar _ _ _ _ _, .ar _ _ _ _ _] _ = _; exact o_apgar) | (show apply _ (.slc _ false true) [.ar _ _ _ _ _, _] _ = _; exact o_slhi) | (show apply _ (.slc _ true false) [.ar _ _ _ _ _, _] _ = _; first | exact o_sllo | exact o_sllo0) | (show apply _ (.slc _ true true) [.ar _ _ _ _ _, _, _] _ = _; exact o_slboth) | (show apply _ (.sl3 _) _ _ = _; exact o_sl3) | (show apply _ (.clr _ _) _ _ = _; exact o_clr) | (show apply _ (.apg _ _) [.nls, .sl _ _ _] _ = _; exact aWu) | (show apply _ (.apg _ _) [.ar _ _ _ _ _, .sl _ _ _] _ = _; first | exact o_apgin | exact jO) | (show apply _ (.box _) _ _ = _; exact bAr) | (show apply _ (.bfp _) _ _ = _; exact o_bfp) | exact aYo | exact a_ncfp | exact aUk | exact aUl | exact aYl | exact a_kst | (show apply _ (.fld _ none) _ _ = _; exact o_fld) | (show apply _ (.fld _ _) _ _ = _; exact o_fldn) | (show apply _ (.ext _) _ _ = _; exact bAs) | (show apply _ (.cvi _) _ _ = _; exact bAt) | exact bCc | exact a_mn | (show apply _ (.stn _) _ _ = _; exact bAj) | exact a_s2b | exact a_cvs | (show apply _ .ixs _ _ = _; exact o_ixs) | (show apply _ (.un .neg) _ _ = _; exact bAq) | (show apply _ (.un .xor) _ _ = _; first | exact aW5 | exact aTt) | (show apply _ (.mks _ _ _) [.int _ (Nat.cast _), _] _ = _; exact o_mks) | (show apply _ (.mks _ _ _) _ _ = _; exact o_mksi) | fail) : p := h
theorem tLE {p : Prop} (h : p := by first | exact Nat.le_of_ble_eq_true rfl | (with_reducible assumption) | (simp [*]; done)) : p := h
theorem tDT {p : Prop} (h : p := by first | (with_reducible assumption) | exact aRh (by (with_reducible assumption)) rfl inferInstance | exact enL_ldn1 (by (with_reducible assumption)) rfl inferInstance | exact enL_sub (by (with_reducible assumption)) rfl inferInstance rfl rfl | (simp only [List.drop_zero, List.drop_succ_cons, List.take_succ_cons, List.take_zero]; first | done | rfl) | exact rfl) : p := h
theorem bAa {p : Prop} (h : p := by first | (with_reducible assumption) | (simp only [iL, List.drop_zero, List.drop_succ_cons, List.drop_nil, List.take_succ_cons, List.take_zero, List.length_cons, List.length_nil, Nat.reduceAdd, Nat.zero_add, List.cons_append, List.nil_append, List.append_nil]; first | done | rfl) | exact rfl) : p := h
theorem aTu {p : Prop} (h : p := by (repeat (first | exact aUo | (apply aUp; exact rfl; exact Nat.le_of_ble_eq_true rfl; (focus (exact aSa))) | (apply aRb; (focus (exact T9)); (focus (exact tLE)); (focus (exact bAa))))); (first | done | fail)) : p := h
theorem T9 {p : Prop} (h : p := by first | (with_reducible assumption) | exact aV3 _ rfl | exact aMm _ rfl | exact rfl | (simp only [List.length_nil, Nat.zero_mul]; done)) : p := h
theorem bAb {p : Prop} (h : p := by with_reducible first | exact beq_self_eq_true _ | exact nt_t (beq_self_eq_true _) | exact bne_self_eq_false _ | rfl | exact decide_eq_true (by assumption) | exact decide_eq_false (by assumption) | assumption | exact aZ4 (by assumption) | exact aZ5 (by assumption) | exact n_eq (by assumption) | exact n_ne (by assumption) | exact Bool.not_true | exact Bool.not_false | exact nt_t (by assumption) | exact nt_f (by assumption)) : p := h
theorem bCn {p : Prop} (h : p := by (repeat (first | exact aUv | (apply aRd; (focus (exact tRB))))); (first | done | fail)) : p := h
theorem tLG {p : Prop} (h : p := by first | assumption | exact Nat.zero_le _ | exact Nat.le_refl _ | (simp only [List.length_append, List.length_set, List.length_cons, List.length_nil]; first | done | omega)) : p := h
theorem tKB {p : Prop} (h : p := by (repeat (first | assumption | exact aRc | exact kb_nil | exact kb_all (by exact tLG) | (refine aMb ?_ (by exact tLG)) | (refine aUu ?_ (by exact tRB)) | (refine kb_far ?_ (by exact tLG)))); (first | done | fail)) : p := h
theorem bCo {p : Prop} (h : p := by (repeat (first | exact tk_all | exact aMe (by exact aKn) | exact rfl | (apply t_peel; (focus (exact tLEL))))); (first | done | fail)) : p := h
theorem bCp {p : Prop} (h : p := by (repeat (first | exact aY2 | exact aUd rfl | (apply aUe; exact rfl))); (first | done | fail)) : p := h
theorem aTv {p : Prop} (h : p := by (repeat (first | exact aY1 | (apply aY3; exact rfl) | (apply bC4; exact rfl))); (repeat ((focus (exact bCp)))); (first | done | fail)) : p := h
theorem bCq {p : Prop} (h : p := by (repeat (first | exact aUz | (apply bCe; exact rfl; exact rfl) | (apply ra_cell; exact rfl; (focus (exact Y3)); (focus (exact tHC)); exact inferInstance; exact rfl) | (apply aMd; exact rfl; (focus (exact Y3)); (focus (exact tDT)); exact rfl; exact rfl; exact inferInstance))); (first | done | fail)) : p := h
theorem tTK {p : Prop} (h : p := by first | exact tk_all | exact tk_app rfl | exact tk_app (by exact aKn) | exact aMe (by exact aKn) | (exact bCo)) : p := h
theorem aWm {p : Prop} (h : p := by first | exact bCf | exact tie2 | exact tie3 | exact tie0 | exact rfl) : p := h
theorem bCr {p : Prop} (h : p := by first | (show bD .P _ _ _ _ _ = _; exact f_P (by exact tRB) (by exact aWm)) | (show bD .T _ _ _ _ _ = _; exact f_T (by exact tRB) (by exact aIt (by exact tKB)) (by exact aWm) (by exact tTK)) | exact f_K (by exact aWm)) : p := h
theorem bAc {p : Prop} (h : p := by first | (with_reducible assumption) | omega | (simp only [List.length_append, List.length_cons, List.length_nil, List.length_set]; first | done | omega)) : p := h
section
variable {β : Type} {T : Tab} {s : Option Nat} {H : aC}
theorem bCs {f id o p : Nat} (h : o + f = p := by exact aOj) : apply s (.fa f) [.ptr id o] H = some (.ptr id p, H) := bC7 h
theorem aWn {f o p : Nat} {c : List V} (h : o + f = p := by exact aOj) : apply s (.fa f) [.fp c o] H = some (.fp c p, H) := aUi h
theorem bCt {id o : Nat} {cs : List V} {v w : V} (h : H[id]? = some cs := by exact Y3) (hc : cs[o]? = some v := by exact tHC) (d : Dis1 v w := by exact inferInstance) : apply s .ld [.ptr id o] H = some (w, H) := bC9 h hc
theorem aWo {o : Nat} {cs : List V} {v w : V} (hc : cs[o]? = some v := by exact tHC) (d : Dis1 v w := by exact inferInstance) : apply s .ld [.fp cs o] H = some (w, H) := aUj hc
theorem bAd {id o n : Nat} {cs ds es : List V} (h : H[id]? = some cs := by exact Y3) (hc : (cs.drop o).take n = ds := by exact tDT) (hl : ds.length = n := by exact T9) (hn : Nat.beq n 0 = false := by exact rfl) (d : DisL ds es := by exact inferInstance) : apply s (.ldn n) [.ptr id o] H = some (.agg es, H) := aY9 h hc hl hn
theorem aSc {o n : Nat} {cs ds es : List V} (hc : (cs.drop o).take n = ds := by exact tDT) (hl : ds.length = n := by exact T9) (hn : Nat.beq n 0 = false := by exact rfl) (d : DisL ds es := by exact inferInstance) : apply s (.ldn n) [.fp cs o] H = some (.agg es, H) := aR9 hc hl hn
theorem bCu {id o z n : Nat} {cs c : List V} (h : H[id]? = some cs := by exact Y3) (hc : cs[o]? = some (.sl (some z) n c) := by exact tHC) : apply s .lv [.ptr id o] H = some (.via id o n c, H) := bCa h hc
theorem bAe {z n i p : Nat} {w : Option Nat} {c : List V} {k : IntKind} (h : i < n := by exact K9) (hp : i * z = p := by exact aOj) : apply s (.ix z) [.sl w n c, .int k (i : Nat)] H = some (.fp c p, H) := aYa h hp
theorem bAf {z n p : Nat} {i : Int} {w : Option Nat} {c : List V} {k : IntKind} (h0 : 0 ≤ i := by exact K9) (h : i < (n : Int) := by exact K9) (hp : i.toNat * z = p := by exact aOj) : apply s (.ix z) [.sl w n c, .int k i] H = some (.fp c p, H) := aYb h0 h hp
theorem bAg {k : IntKind} {a b c : Int} (h : k.wrap (a + b) = c := by exact T8) : apply s (.bin .add) [.int k a, .int k b] H = some (.int k c, H) := aYi h
theorem bAh {k : IntKind} {a b c : Int} (h : k.wrap (a - b) = c := by exact T8) : apply s (.bin .sub) [.int k a, .int k b] H = some (.int k c, H) := aYj h
theorem bAi {k : IntKind} {a b c : Int} (h : k.wrap (a * b) = c := by exact T8) : apply s (.bin .mul) [.int k a, .int k b] H = some (.int k c, H) := aYk h
theorem bCv {id o : Nat} {v : V} {cs ds : List V} {H' : aC} (h : H[id]? = some cs := by exact Y3) (ho : (cs[o]?).isSome = true := by exact tIS) (hs : v.single = true := by exact rfl) (hm : cR s id (fun m => v.rb m) = true := by exact aSb) (hd : cs.set o v = ds := by exact aSa) (hH : H.set id ds = H' := by exact tSH) : apply s .st [.ptr id o, v] H = some (.tup [], H') := bCb h ho hs hm hd hH
theorem bAj {n id o : Nat} {xs cs ds : List V} {H' : aC} (h : H[id]? = some cs := by exact Y3) (hx : xs.length = n := by exact T9) (ho : o + n ≤ cs.length := by exact tLE) (hm : cR s id (fun m => V.rbL m xs) = true := by exact aSb) (hd : iL cs o xs = ds := by exact bAa) (hH : H.set id ds = H' := by exact tSH) : apply s (.stn n) [.ptr id o, .agg xs] H = some (.tup [], H') := aYp h hx ho hm hd hH
theorem bAk {z : List V} {ps : List (Nat × Nat)} {vs cs : List V} (h : bR z ps vs = some cs := by exact aTu) : apply s (.bld z ps) vs H = some (.agg cs, H) := aYq h
theorem aWp {sz : Nat} {z cs ds : List V} {v : V} (hc : Cells v cs := by exact inferInstance) (hl : cs.length = sz := by exact T9) (hz : z.length = sz := by exact rfl) (hs : sz ≤ 16777216 := by decide) (d : DisL cs ds := by exact inferInstance) : apply s (.bsl sz z 1 [0]) [v] H = some (.sl (some sz) 1 ds, H) := aUm hl hz hs
theorem bAl {sz len : Nat} {z cs ds : List V} {offs : List Nat} {vs : List V} (hl : len * sz ≤ 16777216 := by decide) (h : bR (lN z len) (offs.map (·, sz)) vs = some cs := by (simp only [lN, List.map_cons, List.map_nil, List.cons_append, List.nil_append, List.append_nil]; exact aTu)) (d : DisL cs ds := by exact inferInstance) : apply s (.bsl sz z len offs) vs H = some (.sl (some sz) len ds, H) := by
 simp only [apply, if_pos hl, h, Option.map_some, d.eq]
theorem aWq {z y m : Nat} {w : Option Nat} {ds : List V} (hd : ds.length = m * z := by exact T9) (hr : m * y ≤ 140737488355328 := by exact K9) : apply s (.app z y) [.sl (some z) 0 [], .sl w m ds] H = some (.sl (some z) m ds, H) := by
 have := aTg (s := s) (H := H) (z := z) (y := y) (n := 0) (m := m) (w := w) (cs := []) (ds := ds) (es := ds) (by simp) hd (by rw [Nat.zero_add]; exact hr) rfl
 rwa [Nat.zero_add] at this
theorem aWr {α : Type} [Cel α] {z y m : Nat} {w : Option Nat} {l xs : List α} {ds : List V} (hf : FoldL α ds xs := by exact inferInstance) (hz : Cel.n α = z := by exact rfl) (hd : ds.length = m * z := by exact T9) (hp : Nat.beq z 0 = false := by exact rfl) (hr : (l.length + xs.length) * y ≤ 140737488355328 := by exact K9) : apply s (.app z y) [.sl (some z) l.length (enL l), .sl w m ds] H = some (.sl (some z) (l ++ xs).length (enL (l ++ xs)), H) := aV4 hf hz hd hp hr
theorem aWs {α : Type} [Cel α] {z y m id off : Nat} {w : Option Nat} {l xs : List α} {ds os ps : List V} {H' : aC} {n0 : Nat} {c0 : List V} (h : H[id]? = some os := by exact Y3) (ho : os[off]? = some (.sl (some z) l.length (enL l)) := by exact tHC) (hm : cR s id (fun _ => true) = true := by exact aSb) (hs : os.set off (.sl none l.length (enL l)) = ps := by exact aSa) (hH : H.set id ps = H' := by exact tSH)
 (hf : FoldL α ds xs := by exact inferInstance) (hz : Cel.n α = z := by exact rfl) (hd : ds.length = m * z := by exact T9) (hp : Nat.beq z 0 = false := by exact rfl) (hr : (l.length + xs.length) * y ≤ 140737488355328 := by exact K9) : apply s (.apv z y) [.via id off n0 c0, .sl w m ds] H = some (.sl (some z) (l ++ xs).length (enL (l ++ xs)), H') := aV5 h ho hm hs hH hf hz hd hp hr
theorem bAm {k : IntKind} {a b c : Int} (h : b ≠ 0 := by first | assumption | omega) (hc : k.wrap (a.tdiv b) = c := by exact T8) : apply s (.bin .quo) [.int k a, .int k b] H = some (.int k c, H) := by rw [← hc]; exact aZ6 h
theorem bAn {k : IntKind} {a b c : Int} (h : b ≠ 0 := by first | assumption | omega) (hc : a.tmod b = c := by first | (with_reducible assumption) | exact rfl) : apply s (.bin .rem) [.int k a, .int k b] H = some (.int k c, H) := by rw [← hc]; exact aZ7 h
theorem bAo {k j : IntKind} {a b p c : Int} (h : 0 ≤ b := by first | assumption | omega) (hp : (2 : Int) ^ (min b.toNat k.bits) = p := by first | exact sh1 | exact sh8 | exact bA5 | exact bA6 | exact bA7 | exact sh2 | exact sh4 | exact sh7 | exact bA2 | exact bA3 | exact bA4 | exact rfl) (hc : k.wrap (a * p) = c := by exact T8) : apply s (.bin .shl) [.int k a, .int j b] H = some (.int k c, H) := by rw [← hc, ← hp]; exact aZ8 h
theorem bAp {k j : IntKind} {a b p : Int} (h : 0 ≤ b := by first | assumption | omega) (hp : (2 : Int) ^ (min b.toNat k.bits) = p := by first | exact sh1 | exact sh8 | exact bA5 | exact bA6 | exact bA7 | exact sh2 | exact sh4 | exact sh7 | exact bA2 | exact bA3 | exact bA4 | exact rfl) : apply s (.bin .shr) [.int k a, .int j b] H = some (.int k (a / p), H) := by
 rw [← hp, aZ9 h, Int.fdiv_eq_ediv_of_nonneg _ (Int.pow_nonneg (by decide))]
theorem bAq {k : IntKind} {a c : Int} (hc : k.wrap (0 - a) = c := by exact T8) : apply s (.un .neg) [.int k a] H = some (.int k c, H) := by rw [← hc]; exact aZa
theorem aWt {z y n id off r p : Nat} {i : Int} {k : IntKind} (h0 : 0 ≤ i := by exact K9) (h : i < (n : Int) := by exact K9) (hp : off + i.toNat * z = p := by exact aOj) : apply s (.ix z) [.ar y id off n r, .int k i] H = some (.ptr id p, H) := aV7 h0 h hp
theorem bAr {n : Nat} {v : V} {cs : List V} (hc : Cells v cs := by exact inferInstance) (hl : cs.length = n := by exact T9) : apply s (.box n) [v] H = some (.ptr H.length 0, H ++ [cs]) := aYn hl
theorem bAs {i : Nat} {vs : List V} {v : V} (h : vs[i]? = some v := by exact tHC) (hn : v.ntup = some v := by exact rfl) : apply s (.ext i) [.tup vs] H = some (v, H) := aYs h hn
theorem bAt {k j : IntKind} {n m : Int} (h : k.wrap n = m := by exact T8) : apply s (.cvi k) [.int j n] H = some (.int k m, H) := aYu h
theorem aWu {z y m : Nat} {w : Option Nat} {ds es : List V} (hm : Nat.beq m 0 = false := by exact rfl) (hd : ds.length = m * z := by exact T9) (hr : m * y ≤ 140737488355328 := by exact K9) (d : DisL ds es := by exact inferInstance) : apply s (.apg z y) [.nls, .sl w m ds] H = some (.ar z H.length 0 m m, H ++ [es]) :=
 aV8 (fun k => by subst k; cases hm) hd hr d
theorem jO {z y n m k id : Nat} {w : Option Nat} {us es cs ds : List V} {H' : aC} (hk : k < n + m := by exact K9) (h : H[id]? = some cs := by exact Y3) (hm : cR s id (fun _ => true) = true := by exact aSb) (hu : us.length = m * z := by exact T9) (d : DisL us es := by exact inferInstance) (hc : cs ≠ [] := by assumption) (hl : n * z ≤ cs.length := by exact K9) (hr : (n + m) * y ≤ 140737488355328 := by exact K9)
 (hd : cs.take (n * z) ++ es = ds := by first | (with_reducible assumption) | exact Eq.refl (_ ++ _)) (hH : H.set id [] = H' := by exact tSH) : apply s (.apg z y) [.ar z id 0 n k, .sl w m us] H = some (.ar z H.length 0 (n + m) (n + m), H' ++ [ds]) := aMs h hm (aZb hu) d hk hc hl hr hd hH
def GC (c : Bool) (A B : Prop) : Prop := (c = true → A) ∧ (c = false → B)
theorem bAu {c : Bool} {A B : Prop} (h : A) (hc : c = true) : GC c A B := ⟨fun _ => h, fun k => (by rw [hc] at k; cases k)⟩
theorem bAv {c : Bool} {A B : Prop} (h : B) (hc : c = false) : GC c A B := ⟨fun k => (by rw [hc] at k; cases k), fun _ => h⟩
theorem aH {p : Prop} [Decidable p] {A B : Prop} (h1 : p → A) (h2 : ¬ p → B) : GC (decide p) A B := ⟨fun k => h1 (of_decide_eq_true k), fun k => h2 (of_decide_eq_false k)⟩
theorem aWv {c : Bool} {A B : Prop} (h : GC c B A) : GC (!c) A B := ⟨fun k => h.2 (by cases c <;> first | rfl | cases k), fun k => h.1 (by cases c <;> first | rfl | cases k)⟩
theorem bAw {p : Prop} [Decidable p] {A B : Prop} (h : A) (hp : p := by exact bAc) : GC (decide p) A B := bAu h (decide_eq_true hp)
theorem bAx {p : Prop} [Decidable p] {A B : Prop} (h : B) (hp : ¬ p := by exact bAc) : GC (decide p) A B := bAv h (decide_eq_false hp)
theorem bAy {c : Bool} {A B : Prop} (h : A) (hc : c = true := by exact bAb) : GC c A B := bAu h hc
theorem bAz {c : Bool} {A B : Prop} (h : B) (hc : c = false := by exact bAb) : GC c A B := bAv h hc
abbrev gX {c : Bool} {A B : Prop} : Prop := GC (!c) A B
abbrev gD {p : Prop} {i : Decidable p} {A B : Prop} : Prop := GC (@decide p i) A B
abbrev gE {p q : Int} {A B : Prop} : Prop := GC (p == q) A B
abbrev gN {p q : Int} {A B : Prop} : Prop := GC (p != q) A B
abbrev gA {c : Bool} {A B : Prop} : Prop := GC c A B
abbrev zz {T : Tab} {s : Option Nat} {rs : List (Option Nat × Option (Nat × Bool) × I)} {e : aZ} {H : aC} {κ : aZ × aC → Option β} {Y : Option β → Prop} : Prop := Ev (RR T s rs e H κ) Y
section
variable {T : Tab} {s : Option Nat} {d g n u : Nat} {i : I} {o : O} {x a b : X} {f : FuncId} {xs : List X} {rs : List (Option Nat × Option (Nat × Bool) × I)} {e : aZ} {H : aC} {κ : aZ × aC → Option β} {Y : Option β → Prop}
abbrev zo : Prop := Ev (RR T s ((some d, none, .op o xs) :: rs) e H κ) Y
abbrev zf : Prop := Ev (RR T s ((some d, some (g, false), i) :: rs) e H κ) Y
abbrev zt : Prop := Ev (RR T s ((some d, some (g, true), i) :: rs) e H κ) Y
abbrev zm : Prop := Ev (RR T s ((some d, none, .mv x) :: rs) e H κ) Y
abbrev zr : Prop := Ev (RR T s [] e H κ) Y
abbrev zc : Prop := Ev (RR T s ((some d, none, .call f xs 0) :: rs) e H κ) Y
abbrev zn : Prop := Ev (RR T s ((some d, none, .call f xs n) :: rs) e H κ) Y
abbrev zO : Prop := Ev (RR T s ((none, none, .op o xs) :: rs) e H κ) Y
abbrev ze : Prop := Ev (RR T s ((some d, none, .exm n u) :: rs) e H κ) Y
abbrev zp : Prop := Ev (RR T s ((some d, none, .pick x a b) :: rs) e H κ) Y
abbrev zC : Prop := Ev (RR T s ((none, none, .call f xs 0) :: rs) e H κ) Y
abbrev zv : Prop := Ev (RR T s ((some d, none, .cav x xs) :: rs) e H κ) Y
abbrev zV : Prop := Ev (RR T s ((none, none, .cav x xs) :: rs) e H κ) Y
abbrev zF : Prop := Ev (RR T s ((none, some (g, false), i) :: rs) e H κ) Y
abbrev zT : Prop := Ev (RR T s ((none, some (g, true), i) :: rs) e H κ) Y
end
section
variable {T : Tab} {s : Option Nat} {c k : C} {x : X} {l m p : List Nat} {q : List (Nat × Nat × Nat × Nat)} {rs : List (Option Nat × Option (Nat × Bool) × I)} {e : aZ} {H : aC} {κ : oK → Option β} {Y : Option β → Prop}
abbrev zR : Prop := Ev (R T s c e H κ) Y
abbrev zs : Prop := Ev (R T s (.seq c k) e H κ) Y
abbrev zg : Prop := Ev (R T s (.reg l q m p rs) e H κ) Y
abbrev zd : Prop := Ev (R T s (.cnd x c k) e H κ) Y
end
abbrev zj {x : β} {r : Option β} : Prop := Ev (some x) (Is r)
theorem bCw {d q : Nat} {c : Bool} {i : I} {rs} {e e1 : aZ} {κ : aZ × aC → Option β} {Y : Option β → Prop} (h : GC c (Ev (RR T s rs ((d, .tup []) :: e1) H κ) Y) (Ev (RR T s ((some d, none, i) :: rs) e H κ) Y)) (hg : g e q = some (.bool c) := by exact rfl) (hd : bW e d = e1 := by exact K8) : Ev (RR T s ((some d, some (q, false), i) :: rs) e H κ) Y := by
 cases c
 ·exact aY8 hg rfl (h.2 rfl)
 ·exact aUg hg rfl hd (h.1 rfl)
theorem bCx {d q : Nat} {c : Bool} {i : I} {rs} {e e1 : aZ} {κ : aZ × aC → Option β} {Y : Option β → Prop} (h : GC c (Ev (RR T s ((some d, none, i) :: rs) e H κ) Y) (Ev (RR T s rs ((d, .tup []) :: e1) H κ) Y)) (hg : g e q = some (.bool c) := by exact rfl) (hd : bW e d = e1 := by exact K8) : Ev (RR T s ((some d, some (q, true), i) :: rs) e H κ) Y := by
 cases c
 ·exact aUh hg rfl hd (h.2 rfl)
 ·exact aY7 hg rfl (h.1 rfl)
theorem bB0 {d q : Nat} {w : Bool} {vs : List V} {i : I} {rs} {e e1 : aZ} {κ : aZ × aC → Option β} {Y : Option β → Prop} (h : Ev (RR T s rs ((d, .tup []) :: e1) H κ) Y) (hg : g e q = some (.tup vs) := by exact rfl) (hd : bW e d = e1 := by exact K8) : Ev (RR T s ((some d, some (q, w), i) :: rs) e H κ) Y := by
 rw [s4] at hg
 refine zI (e1 := (d, .tup []) :: e1) (H1 := H) ?_ h
 simp only [kZ, hg, ← hd]; rfl
theorem bCy {d : Nat} {x a b : X} {c : Bool} {rs} {e e1 : aZ} {κ : aZ × aC → Option β} {Y : Option β → Prop} (h : GC c (Ev (RR T s ((some d, none, .mv a) :: rs) e1 H κ) Y) (Ev (RR T s ((some d, none, .mv b) :: rs) e1 H κ) Y)) (hx : gQ x e = some (.bool c, e1) := by exact tEX) : Ev (RR T s ((some d, none, .pick x a b) :: rs) e H κ) Y := by
 have e2 : step (Y4 T) s (.pick x a b) e H = step (Y4 T) s (.mv (if c then a else b)) e1 H := by
  simp only [step, hx, Option.bind_some]
 have e3 : ∀ i, RR T s ((some d, none, i) :: rs) e H κ = ((step (Y4 T) s i e H).bind fun q => RR T s rs (oJ q.2.1 (some d) q.1) q.2.2 κ) := by
  intro i; show ((kZ (Y4 T) s (some d, none, i) _ H).bind fun q => lA (Y4 T) s rs q.1 q.2).bind κ = _; rw [oG]; cases step (Y4 T) s i _ H <;> rfl
 have e4 : ∀ i, RR T s ((some d, none, i) :: rs) e1 H κ = ((step (Y4 T) s i e1 H).bind fun q => RR T s rs (oJ q.2.1 (some d) q.1) q.2.2 κ) := by
  intro i; show ((kZ (Y4 T) s (some d, none, i) _ H).bind fun q => lA (Y4 T) s rs q.1 q.2).bind κ = _; rw [oG]; cases step (Y4 T) s i _ H <;> rfl
 rw [e3, e2]
 cases c
 ·refine Ev.of ?_ (h.2 rfl); rw [e4]; rfl
 ·refine Ev.of ?_ (h.1 rfl); rw [e4]; rfl
theorem bB1 {x : X} {a b : C} {e e1 : aZ} {κ : oK → Option β} {Y : Option β → Prop} {c : Bool} (h : GC c (Ev (R T s a e1 H κ) Y) (Ev (R T s b e1 H κ) Y)) (hx : gQ x e = some (.bool c, e1) := by exact tEX) : Ev (R T s (.cnd x a b) e H κ) Y := bBq hx h.1 h.2
theorem qP {d : Nat} {x : X} {rs} {e e1 e2 : aZ} {v : V} {κ : aZ × aC → Option β} {Y : Option β → Prop} (k : Ev (RR T s rs ((d, v) :: e2) H κ) Y) (hx : gQ x e = some (v, e1) := by exact tEX) (hd : bW e1 d = e2 := by exact K8) : Ev (RR T s ((some d, none, .mv x) :: rs) e H κ) Y := bC6 hx hd k
theorem d8 {d : Nat} {o : O} {xs : List X} {rs} {e e1 e2 : aZ} {H1 : aC} {vs : List V} {v : V} {κ : aZ × aC → Option β} {Y : Option β → Prop} (k : Ev (RR T s rs ((d, v) :: e2) H1 κ) Y) (hx : fT xs e = some (vs, e1) := by exact tHX) (ha : apply s o vs H = some (v, H1) := by exact tOP) (hw : (!o.writes || qD e1) = true := by exact rfl) (hd : bW e1 d = e2 := by exact K8) :
 Ev (RR T s ((some d, none, .op o xs) :: rs) e H κ) Y := bC5 hx ha hw hd k
theorem bB2 {o : O} {xs : List X} {rs} {e e1 : aZ} {H1 : aC} {vs : List V} {v : V} {κ : aZ × aC → Option β} {Y : Option β → Prop} (k : Ev (RR T s rs e1 H1 κ) Y) (hx : fT xs e = some (vs, e1) := by exact tHX) (ha : apply s o vs H = some (v, H1) := by exact tOP) (hw : (!o.writes || qD e1) = true := by exact rfl) :
 Ev (RR T s ((none, none, .op o xs) :: rs) e H κ) Y := aY5 hx ha hw k
theorem dE {d : Nat} {f : FuncId} {xs : List X} {rs} {e e1 e2 : aZ} {H1 : aC} {vs : List V} {v : V} {κ : aZ × aC → Option β} {Y : Option β → Prop} (k : Ev (RR T s rs ((d, v) :: e2) H1 κ) Y) (hx : fT xs e = some (vs, e1) := by exact tHX) (ha : Call T s f vs H = some (v, H1) := by assumption) (hw : (T.pu f || qD e1) = true := by exact rfl) (hd : bW e1 d = e2 := by exact K8) :
 Ev (RR T s ((some d, none, .call f xs 0) :: rs) e H κ) Y := aUf hx ha hw hd k
theorem aA {d nw : Nat} {f : FuncId} {xs : List X} {rs} {e e1 e2 : aZ} {H1 : aC} {vs : List V} {v : V} {κ : aZ × aC → Option β} {Y : Option β → Prop} (k : Ev (RR T s rs ((d, v) :: e2) H1 κ) Y) (hx : fT xs e = some (vs, e1) := by exact tHX) (ha : Call T s f vs H = some (v, H1) := by assumption) (hn : okN nw vs H H1 = true := by first | exact aFh _ _ _ | exact okN_app | assumption | exact okN_1 (by assumption) | exact okN_2 (by assumption) | exact nU (by assumption)) (hw : (T.pu f || qD e1) = true := by exact rfl) (hd : bW e1 d = e2 := by exact K8) :
 Ev (RR T s ((some d, none, .call f xs nw) :: rs) e H κ) Y := aR8 hx ha hn hw hd k
theorem bB3 {a b : Bool} (h : a = true) : (a || b) = true := by rw [h]; rfl
theorem fA {d : Nat} {f : FuncId} {caps caps' : List V} {x : X} {xs : List X} {rs} {e e0 e1 e2 : aZ} {H1 : aC} {vs : List V} {v : V} {κ : aZ × aC → Option β} {Y : Option β → Prop} (k : Ev (RR T s rs ((d, v) :: e2) H1 κ) Y) (hf : gQ x e = some (.fn f caps, e0) := by exact tEX) (hx : fT xs e0 = some (vs, e1) := by exact tHX) (hk : DisL caps caps' := by exact inferInstance) (ha : Call T s f (vs ++ caps') H = some (v, H1) := by assumption) (hw : (T.pu f || qD e1) = true := by first | exact rfl | exact bB3 (by assumption)) (hd : bW e1 d = e2 := by exact K8) :
 Ev (RR T s ((some d, none, .cav x xs) :: rs) e H κ) Y := by
 refine zI ?_ k
 simp only [oG, step, hf, hx, Option.bind_some, hk.eq, hw, if_true, ha, Option.map_some, vJ, vB, hd]
theorem bB4 {d i t : Nat} {rs} {e e1 e2 : aZ} {vs ws : List V} {v w : V} {κ : aZ × aC → Option β} {Y : Option β → Prop} (k : Ev (RR T s rs ((d, v) :: e2) H κ) Y) (h : g e t = some (.tup vs) := by exact rfl) (hv : vs[i]? = some v := by exact rfl) (hn : v.ntup = some v := by exact rfl) (dw : Dis2 v w := by exact inferInstance) (hs : vs.set i w = ws := by exact aSa) (he : bW e t = e1 := by exact K8) (hd : bW ((t, .tup ws) :: e1) d = e2 := by exact K8) :
 Ev (RR T s ((some d, none, .exm i t) :: rs) e H κ) Y := aY6 h hv hn hs he hd k
theorem jP {keep : List Nat} {conf : List (Nat × Nat × Nat × Nat)} {free fps : List Nat} {κ : oK → Option β} {e e1 : aZ} {Y : Option β → Prop} (k : Ev (κ (.nrm, e1, H)) Y) (h : (mV conf e && iX free e && sK fps e) = true := by first | exact rfl | (simp [mV, iX, sK, gC, eget, far, *]; done) | (simp [mV, iX, sK, gC, eget, far]; omega)) (h1 : bZ keep e = e1 := by exact aTv) : Ev (RR T s [] e H (fK keep conf free fps κ)) Y := aJo h h1 k
theorem bCz {l : Nat} {c : C} {e : aZ} {G L : aC} {κ : oK → Option β} {Y : Option β → Prop} (h : Ev (R T (some l) (.loop c) e H κ) Y) (hl : l ≤ G.length := by exact tLG) (hm : H.length = G.length := by exact aKn) (he : e.all (fun p => p.2.rb G.length) = true := by exact bCn) (hk : KB l G H := by exact tKB) : Ev (pX T (some l) c G κ (.nrm, e, H ++ L)) Y := U5 (aZ1 hl hm he hk) h
theorem jQ {c : C} {e : aZ} {G : aC} {κ : oK → Option β} {Y : Option β → Prop} (h : Ev (R T s (.loop c) e H κ) Y) (hm : H.length ≤ G.length := by first | exact Nat.le_refl _ | (simp; done)) : Ev (pX T s c G κ (.nrm, e, H)) Y := U5 (aUt hm) h
def pU (m : Mode) (rs : List Rs) (s : Option Nat) (H H0 : aC) : oK → Option (V × aC) := fun r => match r.1 with
 | .exit _ => none
 | _ => (bG r.2.1 r.2.2 rs).bind fun vs => bD m s H H0 vs r.2.2
abbrev zk {m : Mode} {rs : List Rs} {s : Option Nat} {H H0 : aC} {o : oK} {Y : Option (V × aC) → Prop} : Prop := Ev (pU m rs s H H0 o) Y
theorem bB5 {ex : Ex} {m : Mode} {rs : List Rs} {H0 H1 : aC} {e : aZ} {r : Option (V × aC)} {Y : Option (V × aC) → Prop} {vs : List V} (k : Ev (r) Y) (hx : ex = .nrm ∨ ex = .ret := by first | exact .inl rfl | exact .inr rfl) (h : bG e H1 rs = some vs := by exact bCq) (q : bD m s H H0 vs H1 = r := by exact bCr) : Ev (pU m rs s H H0 (ex, e, H1)) Y := by
 rcases hx with rfl | rfl <;> (show Ev ((bG e H1 rs).bind _) Y; rw [h]; exact Ev.of q k)
theorem bD0 {f : FuncId} {args : List V} {H0 : aC} {cf : CF} {Y : Option (V × aC) → Prop} (hp : T.prim f = none) (hc : T.code f = some cf) (ha : args.length = cf.np) (hm : cf.mode = .P) (hb : V.rbL 0 args = true)
 (h : Ev (R T (some 0) cf.body (aB 0 args) [] (pU .P cf.res s H [])) Y) : Ev (Call T s f args H) Y := aXc (H0 := H0) hp hc ha hm hb (by
 rw [← hm] at h; exact h)
theorem aKo {f : FuncId} {args : List V} {cf : CF} {Y : Option (V × aC) → Prop} (hp : T.prim f = none) (hc : T.code f = some cf) (ha : args.length = cf.np) (hm : cf.mode = .P) (hb : V.rbL 0 args = false)
 (h : Ev (R T (some H.length) cf.body (aB 0 args) H (pU .P cf.res s H H)) Y) : Ev (Call T s f args H) Y := aXd hp hc ha hm hb (by
 rw [← hm] at h; exact h)
theorem bD1 {f : FuncId} {args as : List V} {cf : CF} {Y : Option (V × aC) → Prop} (hp : T.prim f = none) (hc : T.code f = some cf) (ha : args.length = cf.np) (hm : cf.mode = .F) (hf : args.map (kD H 0) = as) (hb : V.rbL 0 as = true)
 (h : Ev (R T (some 0) cf.body (aB 0 as) [] (pU .F cf.res s H [])) Y) : Ev (Call T s f args H) Y := aXf hp hc ha hm hf hb (by
 rw [← hm] at h; exact h)
theorem aKp {f : FuncId} {args : List V} {cf : CF} {Y : Option (V × aC) → Prop} (hp : T.prim f = none) (hc : T.code f = some cf) (ha : args.length = cf.np) (hm : cf.mode ≠ .P ∧ cf.mode ≠ .F)
 (h : Ev (R T s cf.body (aB 0 args) H (pU cf.mode cf.res s H H)) Y) : Ev (Call T s f args H) Y := aXe hp hc ha hm h
end
end Go.Abs
namespace Go.Abs
open Go.RowKit (Below)
open Go.ChangeShapes Go.WideShapes
inductive Ty where
 | bool
 | int (k : IntKind)
 | str
 | sl (e : Ty)
 | st (fs : List Ty)
 | arr (n : Nat) (e : Ty)
mutual
def vO : Ty → List V → Prop
 | .bool, cs => ∃ b, cs = [.bool b]
 | .int k, cs => ∃ n, cs = [.int k n] ∧ (Lit.int k n).wf = true
 | .str, cs => ∃ s : List UInt8, cs = [.str s] ∧ s.length ≤ 140737488351232
 | .sl e, cs => ∃ es : List (List V), cs = [.sl none es.length es.flatten] ∧ es.length ≤ 140737488351232 ∧ ∀ x ∈ es, vO e x
 | .st fs, cs => TyL fs cs
 | .arr n e, cs => ∃ es : List (List V), cs = es.flatten ∧ es.length = n ∧ ∀ x ∈ es, vO e x
def TyL : List Ty → List V → Prop
 | [], cs => cs = []
 | t :: ts, cs => ∃ a b, cs = a ++ b ∧ vO t a ∧ TyL ts b
end
def Ty.isAgg : Ty → Bool
 | .st _ | .arr .. => true
 | _ => false
def TyA (t : Ty) (v : V) : Prop := if t.isAgg then ∃ cs, v = .agg cs ∧ vO t cs else vO t [v]
def aHb : List Ty → List V → Prop
 | [], vs => vs = []
 | t :: ts, vs => ∃ v r, vs = v :: r ∧ TyA t v ∧ aHb ts r
mutual
def wC (P : Program) : Ty → TypeId → Bool
 | .bool, t => match P.underlying t with | some .bool => true | _ => false
 | .int k, t => match P.underlying t with | some (.int j) => j == k | _ => false
 | .str, t => match P.underlying t with | some .string => true | _ => false
 | .sl e, t => match P.underlying t with | some (.slice u) => wC P e u && decide (0 < P.cellsOf u) && decide (0 < P.bytesOf u) | _ => false
 | .st fs, t => match P.underlying t with | some (.struct gs) => s5 P fs gs.toList 0 (P.cellsOf t) | _ => false
 | .arr n e, t => match P.underlying t with | some (.array m u) => m == n && wC P e u && P.cellsOf t == n * P.cellsOf u | _ => false
def s5 (P : Program) : List Ty → List Field → Nat → Nat → Bool
 | [], [], o, n => o == n
 | t :: ts, g :: gs, o, n => g.offset == o && wC P t g.type && s5 P ts gs (o + P.cellsOf g.type) n
 | _, _, _, _ => false
end
def aBa (P : Program) : List Ty → List TypeId → Bool
 | [], [] => true
 | t :: ts, u :: us => wC P t u && aBa P ts us
 | _, _ => false
section
variable {H : Type} {enc : TypeId × Value → H} {P : Program} {w : World}
def xM (w : World) (b o : Nat) : Prop := (w.cell? ⟨b, o, none⟩).isSome = true
def Plain (w : World) (vs : List V) (cs : List Value) : Prop := RepL (xM w) [] w vs cs ∧ ∀ v ∈ vs, v.single = true ∧ v.dis1 = v
theorem Plain.append {vs us : List V} {cs ds : List Value} (h : Plain w vs cs) (k : Plain w us ds) : Plain w (vs ++ us) (cs ++ ds) :=
 ⟨lI h.1 k.1, fun v hv => (List.mem_append.1 hv).elim (h.2 v) (k.2 v)⟩
theorem Plain.nil : Plain w [] [] := ⟨by simp [RepL], by simp⟩
theorem Plain.len {vs : List V} {cs : List Value} (h : Plain w vs cs) : vs.length = cs.length := ((aU _ _).1 h.1).1
theorem Plain.one {v : V} {c : Value} (h : Rep (xM w) [] w v c) (hs : v.single = true) (hd : v.dis1 = v) : Plain w [v] [c] :=
 ⟨by simp only [RepL]; exact ⟨c, [], rfl, h, rfl⟩, by simp; exact ⟨hs, hd⟩⟩
theorem Plain.cells {vs : List V} {cs : List Value} (h : Plain w vs cs) {b o : Nat} (hc : ∀ (j : Nat) c, cs[j]? = some c → w.cell? ⟨b, o + j, none⟩ = some c) : RepC (xM w) [] w vs b o := by
 rw [lH]
 intro j v hj
 obtain ⟨hl, hr⟩ := (aU _ _).1 h.1
 obtain ⟨hjl, _⟩ := List.getElem?_eq_some_iff.1 hj
 have hcj : cs[j]? = some cs[j] := List.getElem?_eq_getElem (by omega)
 have := hc j _ hcj
 exact ⟨by unfold xM; rw [this]; rfl, (h.2 v (List.mem_of_getElem? hj)).1, _, this, hr j v _ hj hcj⟩
theorem RepC.append {S bl} {vs us : List V} {b o : Nat} (h : RepC S bl w vs b o) (k : RepC S bl w us b (o + vs.length)) : RepC S bl w (vs ++ us) b o := by
 rw [lH] at h k ⊢
 intro j v hj
 by_cases hl : j < vs.length
 ·rw [List.getElem?_append_left hl] at hj; exact h j v hj
 ·rw [List.getElem?_append_right (by omega)] at hj
  have := k _ v hj
  rwa [show o + vs.length + (j - vs.length) = o + j by omega] at this
theorem RepC.nil' {S bl} {b o : Nat} : RepC S bl w [] b o := by simp only [RepC]
theorem H3 {sz b o : Nat} : ∀ (n : Nat) (k : Nat) (Q : List V → Prop), (∀ i, i < n → ∃ vs cs, Q vs ∧ Plain w vs cs ∧ cs.length = sz ∧ ∀ (j : Nat) c, cs[j]? = some c → w.cell? ⟨b, o + (k + i) * sz + j, none⟩ = some c) →
 ∃ es : List (List V), es.length = n ∧ (∀ x ∈ es, Q x) ∧ RepC (xM w) [] w es.flatten b (o + k * sz) ∧ es.flatten.length = n * sz
 | 0, k, Q, _ => ⟨[], rfl, by simp, RepC.nil', by simp⟩
 | n + 1, k, Q, h => by
   obtain ⟨vs, cs, h1, h2, h3, h4⟩ := h 0 (by omega)
   obtain ⟨es, e1, e2, e3, e4⟩ := H3 n (k + 1) Q fun i hi => by
    obtain ⟨vs, cs, a1, a2, a3, a4⟩ := h (i + 1) (by omega)
    exact ⟨vs, cs, a1, a2, a3, fun j c hj => by have := a4 j c hj; rwa [show k + (i + 1) = k + 1 + i by omega] at this⟩
   refine ⟨vs :: es, by simp [e1], ?_, ?_, ?_⟩
   ·intro x hx
    rcases List.mem_cons.1 hx with rfl | hx
    ·exact h1
    ·exact e2 x hx
   ·rw [List.flatten_cons]
    refine RepC.append (h2.cells fun j c hj => by have := h4 j c hj; rwa [Nat.add_zero] at this) ?_
    rw [h2.len, h3]
    rwa [Nat.add_mul, Nat.one_mul, ← Nat.add_assoc] at e3
   ·rw [List.flatten_cons, List.length_append, e4, h2.len, h3, Nat.add_mul]; omega
theorem N9 {a : Addr} {n : Nat} {cs : List Value} {base : Nat} (h : w.cells? base a n = some cs) : cs.length = n ∧ ∀ i, i < n → w.cell? (a.add i) = cs[i]? := by
 unfold World.cells? at h
 split at h
 ·have h1 := mapM_some_length h
  refine ⟨by simpa using h1, fun i hi => ?_⟩
  exact mapM_some_get h i i (by simp [hi])
 ·cases h
theorem s6 {cs : List Value} {n : Nat} : ∀ (ts : List Ty) (gs : List Field) (o : Nat), s5 P ts gs o n = true → n = cs.length →
 (∀ (i : Nat) (t : Ty) (g : Field), ts[i]? = some t → gs[i]? = some g → ∃ vs, vO t vs ∧ Plain w vs ((cs.drop g.offset).take (P.cellsOf g.type)) ) →
 ∃ vs, TyL ts vs ∧ Plain w vs (cs.drop o)
 | [], [], o, hok, hn, _ => by
   simp only [s5, beq_iff_eq] at hok
   refine ⟨[], by simp only [TyL], ?_⟩
   rw [List.drop_of_length_le (by omega)]
   exact Plain.nil
 | [], _ :: _, _, hok, _, _ => by simp [s5] at hok
 | _ :: _, [], _, hok, _, _ => by simp [s5] at hok
 | t :: ts, g :: gs, o, hok, hn, h => by
   simp only [s5, Bool.and_eq_true, beq_iff_eq] at hok
   obtain ⟨⟨rfl, _⟩, hok⟩ := hok
   obtain ⟨vs, h1, h2⟩ := h 0 t g rfl rfl
   obtain ⟨us, k1, k2⟩ := s6 ts gs _ hok hn fun i t' g' ht hg => h (i + 1) t' g' (by simpa using ht) (by simpa using hg)
   refine ⟨vs ++ us, by simp only [TyL]; exact ⟨vs, us, rfl, h1, k1⟩, ?_⟩
   have := h2.append k2
   rwa [← List.drop_drop, List.take_append_drop] at this
theorem H4 {cs : List Value} {sz : Nat} {Q : List V → Prop} : ∀ (n k : Nat), cs.length = (k + n) * sz → (∀ i, i < n → ∃ vs, Q vs ∧ Plain w vs ((cs.drop ((k + i) * sz)).take sz)) →
 ∃ es : List (List V), es.length = n ∧ (∀ x ∈ es, Q x) ∧ Plain w es.flatten (cs.drop (k * sz))
 | 0, k, hl, _ => ⟨[], rfl, by simp, by rw [List.drop_of_length_le (by rw [hl]; exact Nat.le_refl _)]; exact Plain.nil⟩
 | n + 1, k, hl, h => by
   obtain ⟨vs, h1, h2⟩ := h 0 (by omega)
   obtain ⟨es, e1, e2, e3⟩ := H4 (Q := Q) n (k + 1) (by rw [hl]; congr 1; omega) fun i hi => by
    have := h (i + 1) (by omega)
    rwa [show k + (i + 1) = k + 1 + i by omega] at this
   refine ⟨vs :: es, by simp [e1], ?_, ?_⟩
   ·intro x hx
    rcases List.mem_cons.1 hx with rfl | hx
    ·exact h1
    ·exact e2 x hx
   ·rw [List.flatten_cons]
    have := h2.append e3
    rwa [Nat.add_zero, Nat.add_mul, Nat.one_mul, ← List.drop_drop, List.take_append_drop] at this
theorem aBb : ∀ {ts : List Ty} {gs : List Field} {o n : Nat}, s5 P ts gs o n = true → ∀ (i : Nat) (t : Ty) (g : Field), ts[i]? = some t → gs[i]? = some g → wC P t g.type = true
 | [], _, _, _, _, i, t, g, ht, _ => by simp at ht
 | _ :: _, [], _, _, _, i, t, g, _, hg => by simp at hg
 | t :: ts, g :: gs, o, n, h, i, t', g', ht, hg => by
   simp only [s5, Bool.and_eq_true] at h
   cases i with
   | zero => simp at ht hg; subst ht; subst hg; exact h.1.2
   | succ i => exact aBb h.2 i t' g' (by simpa using ht) (by simpa using hg)
theorem aHc {ts : List Ty} {i : Nat} {t : Ty} (h : ts[i]? = some t) : SizeOf.sizeOf t < SizeOf.sizeOf ts := List.sizeOf_lt_of_mem (List.mem_of_getElem? h)
theorem sG {e : TypeId} : ∀ {l : List (DataW H)} {d : DataW H} {n : Nat}, d ∈ l → n ∈ d.weights P e → n ∈ DataW.weightsAll P e l
 | [], _, _, h, _ => by cases h
 | c :: l, d, n, h, hn => by
   rw [DataW.weightsAll, List.mem_append]
   rcases List.mem_cons.1 h with rfl | h
   ·exact .inl hn
   ·exact .inr (sG h hn)
theorem xN : ∀ {ts : List TypeId} {l : List (DataW H)} {i : Nat} {t : TypeId} {d : DataW H} {n : Nat}, ts[i]? = some t → l[i]? = some d → n ∈ d.weights P t → n ∈ DataW.weightsEach P ts l
 | [], _, i, _, _, _, h, _, _ => by simp at h
 | _ :: _, [], i, _, _, _, _, h, _ => by simp at h
 | t :: ts, c :: l, 0, u, d, n, ht, hd, hn => by
   simp only [List.getElem?_cons_zero, Option.some.injEq] at ht hd
   subst ht; subst hd
   rw [DataW.weightsEach, List.mem_append]; exact .inl hn
 | t :: ts, c :: l, i + 1, u, d, n, ht, hd, hn => by
   rw [DataW.weightsEach, List.mem_append]; exact .inr (xN (by simpa using ht) (by simpa using hd) hn)
theorem wD {held : Bool} : ∀ (ty : Ty) (t : TypeId) (fuel : Nat) (cs : List Value) (x : DataW H × List MemPlace), wC P ty t = true → DataW.trod enc P w 0 (fun _ => true) held fuel t cs = some x → (∀ n ∈ x.1.weights P t, n ≤ reachBytes) →
 ∃ vs, vO ty vs ∧ Plain w vs cs
 | .bool, t, fuel, cs, x, hok, h, hw => by
   simp only [wC] at hok
   split at hok
   ·rename_i ht
    obtain ⟨b, rfl, _⟩ := DataW.trod_bool ht h
    exact ⟨[.bool b], by simp only [vO]; exact ⟨b, rfl⟩, Plain.one (iE ..) rfl rfl⟩
   ·cases hok
 | .int k, t, fuel, cs, x, hok, h, hw => by
   simp only [wC] at hok
   split at hok
   ·rename_i j ht
    simp only [beq_iff_eq] at hok
    subst hok
    obtain ⟨n, rfl, _, hwf⟩ := DataW.trod_int ht h
    exact ⟨[.int j n], by simp only [vO]; exact ⟨n, rfl, hwf⟩, Plain.one (gM ..) rfl rfl⟩
   ·cases hok
 | .str, t, fuel, cs, x, hok, h, hw => by
   simp only [wC] at hok
   split at hok
   ·rename_i ht
    obtain ⟨s, rfl, rfl, hs⟩ := DataW.trod_string ht h
    have hb := hw s.data.toList.length (by simp [DataW.weights])
    exact ⟨[.str s.data.toList], by simp only [vO]; exact ⟨_, rfl, hb⟩, Plain.one (aTd ..) rfl rfl⟩
   ·cases hok
 | .st fs, t, fuel, cs, x, hok, h, hw => by
   simp only [wC] at hok
   split at hok
   ·rename_i gs ht
    obtain ⟨xs, m, rfl, rfl, hl, hlen, hf⟩ := DataW.trod_struct ht h
    simp only [DataW.weights, ht] at hw
    obtain ⟨vs, k1, k2⟩ := s6 (w := w) (cs := cs) fs gs.toList 0 hok hl.symm fun i ty g hty hg => by
     have hg' : gs[i]? = some g := by simpa using hg
     have hti := hf i g hg'
     have hil : i < xs.length := by rw [hlen]; exact (Array.getElem?_eq_some_iff.1 hg').1
     rw [List.getElem?_eq_getElem hil] at hti
     have : SizeOf.sizeOf ty < SizeOf.sizeOf fs := aHc hty
     exact wD ty g.type m _ _ (aBb hok i ty g hty hg) hti fun n hn => hw n (xN (i := i) (by simp [hg']) (by simp [hil]) hn)
    exact ⟨vs, by simp only [vO]; exact k1, by simpa using k2⟩
   ·cases hok
 | .arr n e, t, fuel, cs, x, hok, h, hw => by
   simp only [wC] at hok
   split at hok
   ·rename_i m u ht
    simp only [Bool.and_eq_true, beq_iff_eq] at hok
    obtain ⟨⟨rfl, hok⟩, hsz⟩ := hok
    obtain ⟨xs, k, rfl, rfl, hl, hlen, hf⟩ := DataW.trod_array ht h
    simp only [DataW.weights, ht] at hw
    obtain ⟨es, e1, e2, e3⟩ := H4 (w := w) (cs := cs) (sz := P.cellsOf u) (Q := vO e) m 0 (by rw [hl, hsz, Nat.zero_add]) fun i hi => by
     have hti := hf i hi
     rw [List.getElem?_eq_getElem (by omega)] at hti
     rw [Nat.zero_add]
     exact wD e u k _ _ hok hti fun n hn => hw n (sG (List.mem_map.2 ⟨_, List.getElem_mem _, rfl⟩) hn)
    exact ⟨es.flatten, by simp only [vO]; exact ⟨es, rfl, e1, e2⟩, by simpa using e3⟩
   ·cases hok
 | .sl e, t, fuel, cs, x, hok, h, hw => by
   simp only [wC] at hok
   split at hok
   ·rename_i u ht
    simp only [Bool.and_eq_true, decide_eq_true_eq] at hok
    obtain ⟨⟨hok, hpos⟩, hby⟩ := hok
    rcases DataW.trod_slice ht h with ⟨rfl, _⟩ | ⟨a, len, cap, elems, rest, m, rfl, rfl, rfl, _, hle, hmax, hlen, hel, hsp, _⟩
    ·refine ⟨[.sl none 0 []], by simp only [vO]; exact ⟨[], rfl, by simp, by simp⟩, Plain.one ?_ rfl rfl⟩
     simp only [Rep]
     exact ⟨none, 0, rfl, Nat.le_refl _, by simp, fun ad h => by cases h⟩
    ·simp only [DataW.weights, ht, List.mem_cons, List.mem_append] at hw
     have spot : cap ≠ 0 → a.spot = none := by
      intro hc
      have key : ∀ i y, i = 0 → (w.cells? 0 (a.add (i * P.cellsOf u)) (P.cellsOf u)).bind (DataW.trod enc P w 0 (fun _ => true) held m u) = some y → a.spot = none := by
       rintro i y rfl hy
       obtain ⟨ci, h1, _⟩ := Option.bind_eq_some_iff.1 hy
       obtain ⟨l1, l2⟩ := N9 h1
       have := l2 0 hpos
       rw [List.getElem?_eq_getElem (by omega)] at this
       have := World.cell?_spot this
       simpa [Addr.add] using this
      by_cases hl0 : 0 < len
      ·have := hel 0 hl0
       rw [List.getElem?_eq_getElem (by omega)] at this
       exact key 0 _ rfl this
      ·obtain ⟨r1, r2⟩ := hsp rfl
       have := r2 0 (by omega)
       rw [List.getElem?_eq_getElem (by omega)] at this
       exact key _ _ (by omega) this
     obtain ⟨es, e1, e2, e3, e4⟩ : ∃ es : List (List V), es.length = len ∧ (∀ x ∈ es, vO e x) ∧ RepC (xM w) [] w es.flatten a.block a.off ∧ es.flatten.length = len * P.cellsOf u := by
      by_cases hc : cap = 0
      ·obtain rfl : len = 0 := by omega
       exact ⟨[], rfl, by simp, RepC.nil', by simp⟩
      ·have := H3 (w := w) (sz := P.cellsOf u) (b := a.block) (o := a.off) len 0 (vO e) fun i hi => by
        have hb := hel i hi
        rw [List.getElem?_eq_getElem (by omega)] at hb
        obtain ⟨ci, h1, h2⟩ := Option.bind_eq_some_iff.1 hb
        obtain ⟨l1, l2⟩ := N9 h1
        obtain ⟨vs, k1, k2⟩ := wD e u m _ _ hok h2 fun n hn => hw n (.inr (.inl (sG (List.mem_map.2 ⟨_, List.getElem_mem _, rfl⟩) hn)))
        refine ⟨vs, ci, k1, k2, l1, fun j c hj => ?_⟩
        obtain ⟨hjl, _⟩ := List.getElem?_eq_some_iff.1 hj
        have := l2 j (by omega)
        rw [hj] at this
        rw [kS (spot hc), Go.Abs.add_none, Go.Abs.add_none] at this
        rw [Nat.zero_add]
        exact this
       simpa using this
     have hlen47 : len ≤ 140737488351232 := by
      have h1 := hw _ (.inl rfl)
      simp only [List.length_map, hlen, reachBytes] at h1
      have h2 : len * 1 ≤ (len + rest.length) * P.bytesOf u := Nat.mul_le_mul (Nat.le_add_right _ _) hby
      omega
     refine ⟨[.sl none len es.flatten], by simp only [vO]; exact ⟨es, by rw [e1], by rw [e1]; exact hlen47, e2⟩, Plain.one ?_ rfl rfl⟩
     simp only [Rep]
     exact ⟨some a, cap, rfl, hle, (fun k => by cases k), fun ad had => by cases had; exact ⟨spot, e3⟩⟩
   ·cases hok
end
end Go.Abs
namespace Go.Abs
structure Item where
 frm : Int
 to : Int
 seq : Int
 body : List (UInt8)
 deriving DecidableEq, Inhabited
def Item.enc (x : Item) : List V := [.int .i64 x.frm, .int .i64 x.to, .int .i64 x.seq, .sl none x.body.length (enL x.body)]
abbrev Item.v (x : Item) : V := .agg [.int .i64 x.frm, .int .i64 x.to, .int .i64 x.seq, .sl none x.body.length (enL x.body)]
instance : Cel Item := ⟨4, Item.enc, fun _ => rfl, fun m x => aL aR (aL aR (aL aR (aL (qB (iU m _)) (eK)))), fun _ => rfl⟩
instance (x : Item) : Expl x [.int .i64 x.frm, .int .i64 x.to, .int .i64 x.seq, .sl none x.body.length (enL x.body)] := ⟨rfl⟩
instance (priority := high) {a1 : Int} {a2 : Int} {a3 : Int} {a4 : List (UInt8)} : Expl (⟨a1, a2, a3, a4⟩ : Item) [.int .i64 a1, .int .i64 a2, .int .i64 a3, .sl none a4.length (enL a4)] := ⟨rfl⟩
instance {a1 : Int} {a2 : Int} {a3 : Int} {a4 : List (UInt8)} {v4 : V} {r : List V} {xs : List Item} [h4 : SlL (UInt8) v4 a4] [h : FoldL Item r xs] : FoldL Item (.int .i64 a1 :: .int .i64 a2 :: .int .i64 a3 :: v4 :: r) (⟨a1, a2, a3, a4⟩ :: xs) := ⟨by rw [bT, ← h.eq, h4.eq]; rfl⟩
def I64 (n : Int) : Prop := -9223372036854775808 ≤ n ∧ n ≤ 9223372036854775807
theorem aCg {n : Int} (h : (Lit.int .i64 n).wf = true) : I64 n := by
 simpa [Lit.wf, I64, IntKind.min, IntKind.max, IntKind.signed, IntKind.bits] using h
theorem aXv {n : Int} (h : (Lit.int .u8 n).wf = true) : 0 ≤ n ∧ n ≤ 255 := by
 simpa [Lit.wf, IntKind.min, IntKind.max, IntKind.signed, IntKind.bits] using h
theorem k7 {k : IntKind} {v : V} (h : TyA (.int k) v) : ∃ n, v = .int k n ∧ (Lit.int k n).wf = true := by
 obtain ⟨n, h1, h2⟩ := (show vO (.int k) [v] from h)
 exact ⟨n, by simpa using h1, h2⟩
theorem aLn {cs : List V} (h : vO (.int .i64) cs) : ∃ n : Int, cs = Cel.enc n ∧ I64 n := by
 obtain ⟨n, rfl, h2⟩ := h
 exact ⟨n, rfl, aCg h2⟩
theorem aXw {cs : List V} (h : vO (.int .u8) cs) : ∃ n : UInt8, cs = Cel.enc n ∧ True := by
 obtain ⟨n, rfl, h2⟩ := h
 have := aXv h2
 refine ⟨UInt8.ofNat n.toNat, ?_, trivial⟩
 show _ = [V.int .u8 ((UInt8.ofNat n.toNat).toNat : Int)]
 have : ((UInt8.ofNat n.toNat).toNat : Int) = n := by rw [UInt8.toNat_ofNat']; omega
 rw [this]
theorem aIl {α : Type} [Cel α] {t : Ty} {ok : α → Prop} (hf : ∀ cs, vO t cs → ∃ x : α, cs = Cel.enc x ∧ ok x) : ∀ es : List (List V), (∀ x ∈ es, vO t x) → ∃ l : List α, es.flatten = enL l ∧ es.length = l.length ∧ ∀ x ∈ l, ok x
 | [], _ => ⟨[], rfl, rfl, by simp⟩
 | e :: es, h => by
   obtain ⟨l, h1, h2, h3⟩ := aIl hf es fun x hx => h x (List.mem_cons_of_mem _ hx)
   obtain ⟨x, rfl, hx⟩ := hf e (h e (List.mem_cons_self ..))
   exact ⟨x :: l, by rw [List.flatten_cons, bT, h1], by simp [h2], by simpa using ⟨hx, h3⟩⟩
theorem aLo {α : Type} [Cel α] {t : Ty} {ok : α → Prop} (hf : ∀ cs, vO t cs → ∃ x : α, cs = Cel.enc x ∧ ok x) {cs : List V} (h : vO (.sl t) cs) : ∃ l : List α, cs = Cel.enc l ∧ (l.length ≤ 140737488351232 ∧ ∀ x ∈ l, ok x) := by
 obtain ⟨es, rfl, h1, h2⟩ := h
 obtain ⟨l, h3, h4, h5⟩ := aIl hf es h2
 exact ⟨l, by rw [h3, h4]; rfl, by omega, h5⟩
abbrev aCh : Ty := .st [.int .i64, .int .i64, .int .i64, .sl (.int .u8)]
def Item.ok (x : Item) : Prop := I64 x.frm ∧ I64 x.to ∧ I64 x.seq ∧ x.body.length ≤ 140737488351232
theorem aR0 {cs : List V} (h : vO aCh cs) : ∃ x : Item, cs = Cel.enc x ∧ x.ok := by
 simp only [aCh, vO, TyL] at h
 obtain ⟨_, _, rfl, ⟨a, rfl, ha⟩, _, _, rfl, ⟨b, rfl, hb⟩, _, _, rfl, ⟨c, rfl, hc⟩, d, _, rfl, hd, rfl⟩ := h
 obtain ⟨b', rfl, hl⟩ := aLo (fun _ => aXw) (show vO (.sl (.int .u8)) d from by simpa only [vO] using hd)
 exact ⟨⟨a, b, c, b'⟩, rfl, aCg ha, aCg hb, aCg hc, hl.1⟩
end Go.Abs
namespace Go.Abs
theorem xT {α : Type} {l : List α} {i : Nat} (h : i < l.length) : ∃ x, l[i]? = some x := ⟨l[i], List.getElem?_eq_getElem h⟩
theorem oT {α : Type} {l : List α} {i : Nat} {x : α} (h : l[i]? = some x) : l.take i ++ [x] = l.take (i + 1) := by rw [List.take_add_one, h]; rfl
def lk : aZ → Nat → Option V
 | [], _ => none
 | (t, w) :: r, s => bif t == s then some w else lk r s
def pN (vs : aZ) : aZ → aZ
 | [] => []
 | (s, v) :: e => (s, (lk vs s).getD v) :: pN vs e
theorem cD {β : Type} {T : Tab} {s : Option Nat} {c : C} {e0 e vs : aZ} {H : aC} {κ : oK → Option β} {Y : Option β → Prop} (he : pN vs e0 = e) (h : Ev (R T s (.loop c) e H κ) Y) : Ev (R T s (.loop c) (pN vs e0) H κ) Y := by rw [he]; exact h
theorem xU {β σ : Type} {T : Tab} {s : Option Nat} {c : C} {κ : oK → Option β} {Y : Option β → Prop} {e0 : aZ} {H0 : aC} (n : Nat) (vs : Nat → σ → aZ) (Hs : Nat → σ → aC) (P : Nat → σ → Prop)
 (step : ∀ i t, i < n → P i t → (∀ t', P (i + 1) t' → Ev (R T s (.loop c) (pN (vs (i + 1) t') e0) (Hs (i + 1) t') κ) Y) → Ev (R T s (.loop c) (pN (vs i t) e0) (Hs i t) κ) Y)
 (fin : ∀ t, P n t → Ev (R T s (.loop c) (pN (vs n t) e0) (Hs n t) κ) Y) (t : σ) (h : P 0 t) (he : pN (vs 0 t) e0 = e0 := by first | rfl | (simp only [aO, List.length_nil]; rfl)) (hH : Hs 0 t = H0 := by first | rfl | (simp only [aO, List.length_nil]; rfl)) : Ev (R T s (.loop c) e0 H0 κ) Y :=
 aZc n (fun i t => pN (vs i t) e0) Hs P step fin t h he hH
end Go.Abs
namespace Go.Abs
theorem aCi {a b : Int} (hb : 1 ≤ b) (h : ¬ a.tmod b < 0) : a.tdiv b = a / b := by
 rw [Int.tdiv_eq_ediv]
 rw [Int.tmod_eq_emod] at h
 have h1 := Int.emod_lt_of_pos a (b := b) (by omega)
 by_cases k : 0 ≤ a ∨ b ∣ a
 ·rw [if_pos k]; omega
 ·rw [if_neg k] at h
  have : (b.natAbs : Int) = b := by omega
  omega
theorem aCj {a b : Int} (hb : 1 ≤ b) (h : a.tmod b < 0) : a.tdiv b - 1 = a / b := by
 rw [Int.tdiv_eq_ediv]
 rw [Int.tmod_eq_emod] at h
 have h2 := Int.emod_nonneg a (b := b) (by omega)
 by_cases k : 0 ≤ a ∨ b ∣ a
 ·rw [if_pos k] at h; omega
 ·rw [if_neg k, Int.sign_eq_one_of_pos (by omega)]; omega
theorem zL {a b : Int} (hb : 1 ≤ b) : min a 0 ≤ a / b ∧ a / b ≤ max a 0 := by
 constructor
 ·by_cases h : 0 ≤ a
  ·have := Int.ediv_nonneg h (show 0 ≤ b by omega); omega
  ·have : a ≤ a / b := by
    rw [Int.le_ediv_iff_mul_le (by omega)]
    have := Int.mul_le_mul_of_nonpos_left (a := a) (b := b) (c := 1) (by omega) hb
    omega
   omega
 ·by_cases h : 0 ≤ a
  ·have := Int.ediv_le_self b h; omega
  ·have : a / b < 1 := (Int.ediv_lt_iff_lt_mul (by omega)).2 (by omega)
   omega
theorem L6 {a b : Int} (hb : 1 ≤ b) : min a 0 ≤ a.tdiv b ∧ a.tdiv b ≤ max a 0 := by
 have e3 := zL (a := a) hb
 by_cases h : 0 ≤ a
 ·rw [Int.tdiv_eq_ediv_of_nonneg h]; exact e3
 ·have e4 := zL (a := -a) hb
  have : (-a).tdiv b = (-a) / b := Int.tdiv_eq_ediv_of_nonneg (by omega)
  rw [Int.neg_tdiv] at this
  omega
theorem aIm {a b : Int} (hb : 1 ≤ b) (h : 0 < a.tmod b) : a.tdiv b + 1 = -((-a) / b) := by
 have h2 : (-a).tmod b < 0 := by rw [Int.neg_tmod]; omega
 have := aCj hb h2
 rw [Int.neg_tdiv] at this
 omega
theorem aEn {a b : Int} (hb : 1 ≤ b) (h : ¬ 0 < a.tmod b) : a.tdiv b = -((-a) / b) := by
 have h2 : ¬ (-a).tmod b < 0 := by rw [Int.neg_tmod]; omega
 have := aCi hb h2
 rw [Int.neg_tdiv] at this
 omega
def vR (r : BitVec 32) : BitVec 32 := if r.msb then (r <<< 1) ^^^ 0x04c11db7#32 else r <<< 1
def N2 : Nat → BitVec 32 → BitVec 32
 | 0, r => r
 | n + 1, r => N2 n (vR r)
theorem aB6 (n : Nat) (r : BitVec 32) : N2 (n + 1) r = vR (N2 n r) := by
 induction n generalizing r with
 | zero => rfl
 | succ n ih => show N2 (n + 1) (vR r) = _; rw [ih]; rfl
theorem aR1 (r : BitVec 32) : r.msb = decide (2147483648 ≤ r.toNat) := by
 rw [BitVec.msb_eq_decide]
theorem aLp (r : BitVec 32) : (r &&& 2147483648#32) = if r.msb then 2147483648#32 else 0#32 := by
 have h : (2147483648#32) = BitVec.twoPow 32 31 := rfl
 rw [h, BitVec.and_twoPow, BitVec.msb_eq_getLsbD_last]
theorem aLq (r : BitVec 32) : (r <<< 1).toNat = (r.toNat * 2) % 4294967296 := by
 rw [BitVec.toNat_shiftLeft, Nat.shiftLeft_eq]
theorem aXx (r : BitVec 32) : r.toNat / 2147483648 = if r.msb then 1 else 0 := by
 rw [aR1]
 have := r.isLt
 split <;> simp_all <;> omega
theorem uV (r : BitVec 32) : BitVec.ofInt 32 (r.toNat : Int) = r := by
 rw [BitVec.ofInt_natCast, BitVec.ofNat_toNat, BitVec.setWidth_eq]
theorem aLr {w j : Nat} (a : Int) (hj : j ≤ w) : (BitVec.ofInt w a &&& BitVec.ofInt w (((2 ^ j - 1 : Nat)) : Int)).toNat = (a % ((2 ^ j : Nat) : Int)).toNat := by
 rw [BitVec.toNat_and, BitVec.toNat_ofInt, BitVec.ofInt_natCast, BitVec.toNat_ofNat]
 have hp : (2 : Nat) ^ j - 1 < 2 ^ w := by
  have := Nat.pow_le_pow_right (show 2 > 0 by decide) hj
  have := Nat.pow_pos (n := j) (show 0 < 2 by decide)
  omega
 rw [Nat.mod_eq_of_lt hp, Nat.and_two_pow_sub_one_eq_mod]
 have h1 : 0 ≤ a % ((2 ^ w : Nat) : Int) := Int.emod_nonneg _ (by have := Nat.pow_pos (n := w) (show 0 < 2 by decide); omega)
 have h2 : 0 ≤ a % ((2 ^ j : Nat) : Int) := Int.emod_nonneg _ (by have := Nat.pow_pos (n := j) (show 0 < 2 by decide); omega)
 have hd : ((2 ^ j : Nat) : Int) ∣ ((2 ^ w : Nat) : Int) := Int.natCast_dvd_natCast.2 (Nat.pow_dvd_pow 2 hj)
 apply Int.ofNat.inj
 show (((a % ((2 ^ w : Nat) : Int)).toNat % 2 ^ j : Nat) : Int) = ((a % ((2 ^ j : Nat) : Int)).toNat : Int)
 rw [Int.natCast_emod, Int.toNat_of_nonneg h1, Int.toNat_of_nonneg h2, Int.emod_emod_of_dvd _ hd]
theorem aLs {j : Nat} (a : Int) (hj : j ≤ 62) : IntKind.i64.wrap (BitVec.ofInt 64 a &&& BitVec.ofInt 64 (((2 ^ j - 1 : Nat)) : Int)).toNat = a % ((2 ^ j : Nat) : Int) := by
 rw [aLr a (by omega)]
 have hp : 0 < (2 : Nat) ^ j := Nat.pow_pos (by decide)
 have h2 : 0 ≤ a % ((2 ^ j : Nat) : Int) := Int.emod_nonneg _ (by omega)
 have h3 : a % ((2 ^ j : Nat) : Int) < ((2 ^ j : Nat) : Int) := Int.emod_lt_of_pos _ (by omega)
 have h4 : (2 : Nat) ^ j ≤ 2 ^ 62 := Nat.pow_le_pow_right (by decide) hj
 rw [Int.toNat_of_nonneg h2, IntWalk.i64_in _ (by omega)]
def be (n : Int) : Nat → List UInt8
 | 0 => []
 | w + 1 => be (n / 256) w ++ [b8 n]
theorem qM (n : Int) (w : Nat) : (be n w).length = w := by
 induction w generalizing n with
 | zero => rfl
 | succ w ih => simp [be, ih]
theorem aU8 (a b : Int) (h : a % 256 = b % 256) : b8 a = b8 b := by
 have : IntKind.u8.wrap a = IntKind.u8.wrap b := by rw [IntKind.wrap_u8, IntKind.wrap_u8, h]
 unfold b8; rw [this]
theorem aU9 (n : Int) (w : Nat) (k : Int) : be (n + k * 256 ^ w) w = be n w := by
 induction w generalizing n with
 | zero => rfl
 | succ w ih =>
   rw [be, be, Int.pow_succ, ← Int.mul_assoc, Int.add_mul_ediv_right _ _ (by decide), ih]
   rw [aU8 (n + k * 256 ^ w * 256) n (Int.add_mul_emod_self_right ..)]
end Go.Abs
