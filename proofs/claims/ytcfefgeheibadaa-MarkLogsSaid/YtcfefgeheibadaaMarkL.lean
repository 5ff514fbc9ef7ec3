/-
  MarkLogs: the law's code tells true.
-/
import Derived.Test.YtcfefgeheibadaaMarkE
namespace Go.Abs
open Go.Proofs.Ytcfefgeheibadaa
attribute [local irreducible] R RR kSeq kBlk kLp kReg kFin apply evs evX edel ekeep eins fillV lay resAll finish trim mayW frz frz1 V.rb V.rbL

def hLast (last : List Int) (n : Int) (x : Item) : List Int := if handOK last n x then last.set x.frm.toNat x.seq else last
def hGs (last : List Int) (n : Int) (gs : List Got) (x : Item) : List Got := if handOK last n x then gs ++ [handGot last x] else gs
theorem set_same {α : Type} {l : List α} {i : Nat} {a : α} (h : l[i]? = some a) : l.set i a = l := by
  obtain ⟨hl, rfl⟩ := List.getElem?_eq_some_iff.1 h
  exact List.set_getElem_self hl
theorem markHand2 {H : Heap} {id l : Nat} {last : List Int} {n : Int} {gs : List Got} {x : Item} (hid : H[id]? = some (logV last n gs)) (h6 : last.length = 6) (hn : n ≤ 6) (hb : x.body.length ≤ room) (hg : (gs.length + 1) * 48 ≤ room) (hlid : l ≤ id) :
    Call tab (some l) f_mark_Log_Hand [.ptr id 0, .agg x.enc] H = some (.bool (handOK last n x), H.set id (logV (hLast last n x) n (hGs last n gs x))) := by
  rw [markHand H id l last n gs x hid h6 hn hb hg hlid]
  unfold hLast hGs
  split
  · rfl
  · rw [set_same hid]
theorem refHand2 {H : Heap} {id l : Nat} {last : List Int} {n : Int} {gs : List Got} {x : Item} (hid : H[id]? = some (rlogV last n gs)) (h6 : last.length = 6) (hn : n ≤ 6) (hb : x.body.length ≤ room) (hg : (gs.length + 1) * 48 ≤ room) (hlid : l ≤ id) :
    Call tab (some l) f_ref21_Log_Hand [.ptr id 0, .agg x.enc] H = some (.bool (handOK last n x), H.set id (rlogV (hLast last n x) n (hGs last n gs x))) := by
  rw [refHand H id l last n gs x hid h6 hn hb hg hlid]
  unfold hLast hGs
  split
  · rfl
  · rw [set_same hid]
theorem hLast_len {last : List Int} {n : Int} {x : Item} (h : last.length = 6) : (hLast last n x).length = 6 := by unfold hLast; split <;> simp [h]
theorem hGs_len {last : List Int} {n : Int} {x : Item} {gs : List Got} : (hGs last n gs x).length ≤ gs.length + 1 := by unfold hGs; split <;> simp
theorem hGs_body {last : List Int} {n : Int} {x : Item} {gs : List Got} {m : Nat} (h : ∀ y ∈ gs, y.body.length ≤ m) (hx : x.body.length ≤ m) : ∀ y ∈ hGs last n gs x, y.body.length ≤ m := by
  unfold hGs; split
  · intro y hy
    rcases List.mem_append.1 hy with hy | hy
    · exact h y hy
    · simp at hy; subst hy; exact hx
  · exact h

set_option maxHeartbeats 2000000 in
theorem logs_loop {l : List Item} {from_ : Int} {n : Int} {Y : Option (V × Heap)} {κ : Out → Option (V × Heap)} (hl : l.length ≤ 150) (hn : n ≤ 6)
    (hret : ∀ H', κ (.ret, [(6, .bool true)], H') = Y)
    (hexit : ∀ c last gs, last.length = 6 → gs.length ≤ 150 → (∀ x ∈ gs, x.body.length ≤ 60) → κ (.exit 0, [(1, .sl none l.length (l.flatMap Item.enc)), (2, .int .i64 from_), (7, .ptr 0 0), (8, .ptr 1 0), (9, .int .i64 l.length), (25, .bool c)], [logV last n gs, rlogV last n gs]) = Y) :
    ∀ (k i : Nat) (last : List Int) (gs : List Got), i + k = l.length → last.length = 6 → gs.length ≤ i → (∀ x ∈ gs, x.body.length ≤ 60) →
    R tab (some 0) (.loop l_law22_MarkLogs_0) [(1, .sl none l.length (l.flatMap Item.enc)), (2, .int .i64 from_), (7, .ptr 0 0), (8, .ptr 1 0), (9, .int .i64 i)] [logV last n gs, rlogV last n gs] κ = Y
  | 0, i, last, gs, hi, h6, hg, hb => by
    obtain rfl : i = l.length := by omega
    refine r_loop ?_
    unfold l_law22_MarkLogs_0
    have h1 : ¬ ((l.length : Int) < l.length) := by omega
    repeat' (first | (show RR _ _ ((_, none, _) :: _) _ _ _ = _; first | refine y_mv ?_ | refine y_op ?_ | refine y_pt ?_ | refine y_pf ?_ | refine y_op0 ?_ | refine y_call ?_ | refine y_call0 ?_ | refine y_ext ?_ | fail) | (show RR _ _ ((some _, _, _) :: _) _ _ _ = _; first | refine y_fF ?_ | refine y_nF ?_ | refine y_fT ?_ | refine y_nT ?_ | refine w_ifD rfl (fun _ => ?_) (fun _ => ?_) | refine w_ifE rfl (fun _ => ?_) (fun _ => ?_) | refine w_ifN rfl (fun _ => ?_) (fun _ => ?_) | refine w_if rfl (fun _ => ?_) (fun _ => ?_) | fail) | (show RR _ _ [] _ _ _ = _; refine y_reg ?_) | (show R _ _ _ _ _ _ = _; first | refine r_seq ?_ | refine R_reg rfl ?_ | refine r_ret ?_ | refine r_nop ?_ | refine y_ct ?_ | refine y_cf ?_ | refine y_iD (fun _ => ?_) (fun _ => ?_) | refine y_iE (fun _ => ?_) (fun _ => ?_) | refine y_iN (fun _ => ?_) (fun _ => ?_) | refine y_i (fun _ => ?_) (fun _ => ?_) | refine r_blk ?_ | refine r_exit ?_ | fail) | (show RR _ _ ((none, _, _) :: _) _ _ _ = _; first | refine y_zF ?_ | refine y_nF ?_ | refine y_zT ?_ | refine y_nT ?_ | fail) | refine k_seq_nrm ?_ | refine k_seq_ret ?_ | refine k_seq_exit ?_ | refine k_blk_nrm ?_ | refine k_blk_ret ?_ | refine k_blk_hit ?_ | refine k_blk_miss (by decide) ?_ | refine k_lp_ret ?_ | refine k_lp_exit ?_ | refine y_fin ?_ | fail)
    exact hexit _ _ _ h6 (by omega) hb
  | k + 1, i, last, gs, hi, h6, hg, hb => by
    refine r_loop ?_
    unfold l_law22_MarkLogs_0
    have h1 : ((i : Int) < l.length) := by omega
    have h2 : i < l.length := by omega
    obtain ⟨x, hx⟩ : ∃ x, l[i]? = some x := ⟨l[i], List.getElem?_eq_getElem h2⟩
    have e0 : ((l.flatMap Item.enc).drop (i * 4)).take 4 = [.int .i64 x.frm, .int .i64 x.to, .int .i64 x.seq, .sl none x.body.length (bV x.body)] := fm_piece Item.len hx
    have e1 : (l.flatMap Item.enc)[i * 4]? = some (.int .i64 x.frm) := fm_get Item.len hx (j := 0) (by omega)
    have e3 : (l.flatMap Item.enc)[i * 4 + 3]? = some (.sl none x.body.length (bV x.body)) := fm_get Item.len hx (j := 3) (by omega)
    have e6 := wrap_succ (i := i) (by omega)
    by_cases hbig : (60 : Int) < x.body.length
    · repeat' (first | (show RR _ _ ((_, none, _) :: _) _ _ _ = _; first | refine y_mv ?_ | refine y_op ?_ | refine y_pt ?_ | refine y_pf ?_ | refine y_op0 ?_ | refine y_call ?_ | refine y_call0 ?_ | refine y_ext ?_ | fail) | (show RR _ _ ((some _, _, _) :: _) _ _ _ = _; first | refine y_fF ?_ | refine y_nF ?_ | refine y_fT ?_ | refine y_nT ?_ | refine w_ifD rfl (fun _ => ?_) (fun _ => ?_) | refine w_ifE rfl (fun _ => ?_) (fun _ => ?_) | refine w_ifN rfl (fun _ => ?_) (fun _ => ?_) | refine w_if rfl (fun _ => ?_) (fun _ => ?_) | fail) | (show RR _ _ [] _ _ _ = _; refine y_reg ?_) | (show R _ _ _ _ _ _ = _; first | refine r_seq ?_ | refine R_reg rfl ?_ | refine r_ret ?_ | refine r_nop ?_ | refine y_ct ?_ | refine y_cf ?_ | refine y_iD (fun _ => ?_) (fun _ => ?_) | refine y_iE (fun _ => ?_) (fun _ => ?_) | refine y_iN (fun _ => ?_) (fun _ => ?_) | refine y_i (fun _ => ?_) (fun _ => ?_) | refine r_blk ?_ | refine r_exit ?_ | fail) | (show RR _ _ ((none, _, _) :: _) _ _ _ = _; first | refine y_zF ?_ | refine y_nF ?_ | refine y_zT ?_ | refine y_nT ?_ | fail) | refine k_seq_nrm ?_ | refine k_seq_ret ?_ | refine k_seq_exit ?_ | refine k_blk_nrm ?_ | refine k_blk_ret ?_ | refine k_blk_hit ?_ | refine k_blk_miss (by decide) ?_ | refine k_lp_ret ?_ | refine k_lp_exit ?_ | refine y_fin ?_ | fail)
      exact hret _
    · have hr : x.body.length ≤ room := by unfold room; omega
      have hg48 : (gs.length + 1) * 48 ≤ room := by unfold room; omega
      have h6' := hLast_len (n := n) (x := x) h6
      have m1 : Call tab (some 0) f_mark_Log_Hand [.ptr 0 0, .agg [.int .i64 x.frm, .int .i64 x.to, .int .i64 x.seq, .sl none x.body.length (bV x.body)]] [logV last n gs, rlogV last n gs] = some (.bool (handOK last n x), [logV (hLast last n x) n (hGs last n gs x), rlogV last n gs]) :=
        markHand2 (id := 0) (x := x) rfl h6 hn hr hg48 (Nat.le_refl _)
      have m2 : Call tab (some 0) f_ref21_Log_Hand [.ptr 1 0, .agg [.int .i64 x.frm, .int .i64 x.to, .int .i64 x.seq, .sl none x.body.length (bV x.body)]] [logV (hLast last n x) n (hGs last n gs x), rlogV last n gs] = some (.bool (handOK last n x), [logV (hLast last n x) n (hGs last n gs x), rlogV (hLast last n x) n (hGs last n gs x)]) :=
        refHand2 (id := 1) (x := x) rfl h6 hn hr hg48 (Nat.zero_le _)
      generalize hok : handOK last n x = ok at *
      generalize hLast last n x = last' at *
      have hgl := hGs_len (last := last) (n := n) (x := x) (gs := gs)
      have hgb := hGs_body (last := last) (n := n) (x := x) (gs := gs) hb (by omega)
      generalize hGs last n gs x = gs' at *
      have m3 : ∀ f, Call tab (some 0) f_mark_Log_Last [.ptr 0 0, .int .i64 f] [logV last' n gs', rlogV last' n gs'] = some (.int .i64 (lastOf last' n f), [logV last' n gs', rlogV last' n gs']) := fun f => markLast (id := 0) rfl h6' hn
      have m4 : ∀ f, Call tab (some 0) f_ref21_Log_LastOf [.ptr 1 0, .int .i64 f] [logV last' n gs', rlogV last' n gs'] = some (.int .i64 (lastOf last' n f), [logV last' n gs', rlogV last' n gs']) := fun f => refLast (id := 1) rfl h6' hn
      have n1 : (ok != ok) = false := by simp
      have n2 : ∀ a : Int, (a != a) = false := by simp
      have n3 := n2 (lastOf last' n x.frm)
      have n4 := n2 (lastOf last' n from_)
      repeat' (first | (show RR _ _ ((_, none, _) :: _) _ _ _ = _; first | refine y_mv ?_ | refine y_op ?_ | refine y_pt ?_ | refine y_pf ?_ | refine y_op0 ?_ | refine y_call ?_ (ha := by first | exact m3 _ | exact m4 _ | assumption) | refine y_call0 ?_ (ha := by first | exact m3 _ | exact m4 _ | assumption) | refine y_ext ?_ | fail) | (show RR _ _ ((some _, _, _) :: _) _ _ _ = _; first | refine y_fF ?_ | refine y_nF ?_ | refine y_fT ?_ | refine y_nT ?_ | refine w_ifD rfl (fun _ => ?_) (fun _ => ?_) | refine w_ifE rfl (fun _ => ?_) (fun _ => ?_) | refine w_ifN rfl (fun _ => ?_) (fun _ => ?_) | refine w_if rfl (fun _ => ?_) (fun _ => ?_) | fail) | (show RR _ _ [] _ _ _ = _; refine y_reg ?_) | (show R _ _ _ _ _ _ = _; first | refine r_seq ?_ | refine R_reg rfl ?_ | refine r_ret ?_ | refine r_nop ?_ | refine y_ct ?_ | refine y_cf ?_ | refine y_iD (fun _ => ?_) (fun _ => ?_) | refine y_iE (fun _ => ?_) (fun _ => ?_) | refine y_iN (fun _ => ?_) (fun _ => ?_) | refine y_i (fun _ => ?_) (fun _ => ?_) | refine r_blk ?_ | refine r_exit ?_ | fail) | (show RR _ _ ((none, _, _) :: _) _ _ _ = _; first | refine y_zF ?_ | refine y_nF ?_ | refine y_zT ?_ | refine y_nT ?_ | fail) | refine k_seq_nrm ?_ | refine k_seq_ret ?_ | refine k_seq_exit ?_ | refine k_blk_nrm ?_ | refine k_blk_ret ?_ | refine k_blk_hit ?_ | refine k_blk_miss (by decide) ?_ | refine k_lp_ret ?_ | refine k_lp_exit ?_ | refine y_fin ?_ | fail)
      refine y_lps ?_
      exact logs_loop hl hn hret hexit k (i + 1) last' gs' (by omega) h6' (by omega) hgb

theorem lim6_le (p : Int) : lim6 p ≤ 6 := by unfold lim6; omega
set_option maxHeartbeats 2000000 in
theorem markLogs {us : List V} (h : TyAs [.int .i64, .sl tyItem, .int .i64] us) : Call tab none f_law22_MarkLogs us [] = some (.bool true, []) := by
  obtain ⟨_, _, rfl, h1, _, _, rfl, h2, _, _, rfl, h3, rfl⟩ := h
  obtain ⟨p, rfl, _⟩ := ty_int h1
  obtain ⟨l, rfl, _, _⟩ := ty_slice (f := Item.enc) (ok := Item.ok) (fun _ => ty_item) h2
  obtain ⟨f, rfl, _⟩ := ty_int h3
  have e1 : V.rbL 0 (l.flatMap Item.enc) = true := fm_rb (Item.rb _) _
  refine Call_P (H0 := []) (cf := c_law22_MarkLogs) rfl rfl rfl rfl (by (repeat' (first | assumption | exact rb_int | exact rb_bool | exact rb_str | exact rb_nil | refine rb_sl ?_ | refine rb_cons ?_ ?_ | refine rb_agg ?_ | refine rb_app ?_ ?_ | refine rb_ptr ?_ | (simp only [V.rb]; done))); (first | done | fail)) ?_
  unfold c_law22_MarkLogs
  dsimp only [initEnv, Nat.reduceAdd, Nat.zero_add]
  by_cases hl : (150 : Int) < l.length
  · repeat' (first | (show RR _ _ ((_, none, _) :: _) _ _ _ = _; first | refine y_mv ?_ | refine y_op ?_ | refine y_pt ?_ | refine y_pf ?_ | refine y_op0 ?_ | refine y_call ?_ (ha := by first | exact alive_s | assumption) | refine y_call0 ?_ (ha := by first | exact alive_s | assumption) | refine y_ext ?_ | fail) | (show RR _ _ ((some _, _, _) :: _) _ _ _ = _; first | refine y_fF ?_ | refine y_nF ?_ | refine y_fT ?_ | refine y_nT ?_ | refine w_ifD rfl (fun _ => ?_) (fun _ => ?_) | refine w_ifE rfl (fun _ => ?_) (fun _ => ?_) | refine w_ifN rfl (fun _ => ?_) (fun _ => ?_) | refine w_if rfl (fun _ => ?_) (fun _ => ?_) | fail) | (show RR _ _ [] _ _ _ = _; refine y_reg ?_) | (show R _ _ _ _ _ _ = _; first | refine r_seq ?_ | refine R_reg rfl ?_ | refine r_ret ?_ | refine r_nop ?_ | refine y_ct ?_ | refine y_cf ?_ | refine y_iD (fun _ => ?_) (fun _ => ?_) | refine y_iE (fun _ => ?_) (fun _ => ?_) | refine y_iN (fun _ => ?_) (fun _ => ?_) | refine y_i (fun _ => ?_) (fun _ => ?_) | refine r_blk ?_ | refine r_exit ?_ | fail) | (show RR _ _ ((none, _, _) :: _) _ _ _ = _; first | refine y_zF ?_ | refine y_nF ?_ | refine y_zT ?_ | refine y_nT ?_ | fail) | refine k_seq_nrm ?_ | refine k_seq_ret ?_ | refine k_seq_exit ?_ | refine k_blk_nrm ?_ | refine k_blk_ret ?_ | refine k_blk_hit ?_ | refine k_blk_miss (by decide) ?_ | refine k_lp_ret ?_ | refine k_lp_exit ?_ | refine y_fin ?_ | fail)
    all_goals rfl
  · repeat' (first | (show RR _ _ ((_, none, _) :: _) _ _ _ = _; first | refine y_mv ?_ | refine y_op ?_ | refine y_pt ?_ | refine y_pf ?_ | refine y_op0 ?_ | refine y_call ?_ (ha := by first | exact alive_s | exact markNew | exact refNew | assumption) | refine y_call0 ?_ (ha := by first | exact alive_s | exact markNew | exact refNew | assumption) | refine y_ext ?_ | fail) | (show RR _ _ ((some _, _, _) :: _) _ _ _ = _; first | refine y_fF ?_ | refine y_nF ?_ | refine y_fT ?_ | refine y_nT ?_ | refine w_ifD rfl (fun _ => ?_) (fun _ => ?_) | refine w_ifE rfl (fun _ => ?_) (fun _ => ?_) | refine w_ifN rfl (fun _ => ?_) (fun _ => ?_) | refine w_if rfl (fun _ => ?_) (fun _ => ?_) | fail) | (show RR _ _ [] _ _ _ = _; refine y_reg ?_) | (show R _ _ _ _ _ _ = _; first | refine r_seq ?_ | refine R_reg rfl ?_ | refine r_ret ?_ | refine r_nop ?_ | refine y_ct ?_ | refine y_cf ?_ | refine y_iD (fun _ => ?_) (fun _ => ?_) | refine y_iE (fun _ => ?_) (fun _ => ?_) | refine y_iN (fun _ => ?_) (fun _ => ?_) | refine y_i (fun _ => ?_) (fun _ => ?_) | refine r_blk ?_ | refine r_exit ?_ | fail) | (show RR _ _ ((none, _, _) :: _) _ _ _ = _; first | refine y_zF ?_ | refine y_nF ?_ | refine y_zT ?_ | refine y_nT ?_ | fail) | refine k_seq_nrm ?_ | refine k_seq_ret ?_ | refine k_seq_exit ?_ | refine k_blk_nrm ?_ | refine k_blk_ret ?_ | refine k_blk_hit ?_ | refine k_blk_miss (by decide) ?_ | refine k_lp_ret ?_ | refine k_lp_exit ?_ | refine y_fin ?_ | fail)
    refine logs_loop (l := l) (from_ := f) (n := lim6 p) (by omega) (lim6_le p) (fun H' => ?_) (fun c last gs h6 hg hb => ?_) l.length 0 [0, 0, 0, 0, 0, 0] [] (by omega) rfl (Nat.le_refl _) (by simp)
    · repeat' (first | (show RR _ _ ((_, none, _) :: _) _ _ _ = _; first | refine y_mv ?_ | refine y_op ?_ | refine y_pt ?_ | refine y_pf ?_ | refine y_op0 ?_ | refine y_call ?_ | refine y_call0 ?_ | refine y_ext ?_ | fail) | (show RR _ _ ((some _, _, _) :: _) _ _ _ = _; first | refine y_fF ?_ | refine y_nF ?_ | refine y_fT ?_ | refine y_nT ?_ | refine w_ifD rfl (fun _ => ?_) (fun _ => ?_) | refine w_ifE rfl (fun _ => ?_) (fun _ => ?_) | refine w_ifN rfl (fun _ => ?_) (fun _ => ?_) | refine w_if rfl (fun _ => ?_) (fun _ => ?_) | fail) | (show RR _ _ [] _ _ _ = _; refine y_reg ?_) | (show R _ _ _ _ _ _ = _; first | refine r_seq ?_ | refine R_reg rfl ?_ | refine r_ret ?_ | refine r_nop ?_ | refine y_ct ?_ | refine y_cf ?_ | refine y_iD (fun _ => ?_) (fun _ => ?_) | refine y_iE (fun _ => ?_) (fun _ => ?_) | refine y_iN (fun _ => ?_) (fun _ => ?_) | refine y_i (fun _ => ?_) (fun _ => ?_) | refine r_blk ?_ | refine r_exit ?_ | fail) | (show RR _ _ ((none, _, _) :: _) _ _ _ = _; first | refine y_zF ?_ | refine y_nF ?_ | refine y_zT ?_ | refine y_nT ?_ | fail) | refine k_seq_nrm ?_ | refine k_seq_ret ?_ | refine k_seq_exit ?_ | refine k_blk_nrm ?_ | refine k_blk_ret ?_ | refine k_blk_hit ?_ | refine k_blk_miss (by decide) ?_ | refine k_lp_ret ?_ | refine k_lp_exit ?_ | refine y_fin ?_ | fail)
      rfl
    · have k7 := rlogV_7 (n := lim6 p) (gs := gs) h6
      have m1 : Call tab (some 0) f_mark_Log_All [.ptr 0 0] [logV last (lim6 p) gs, rlogV last (lim6 p) gs] = some (.sl (some 4) gs.length (gs.flatMap Got.enc), [logV last (lim6 p) gs, rlogV last (lim6 p) gs]) := markAll (id := 0) rfl h6 (fun x hx => by have := hb x hx; unfold room; omega) (by unfold room; omega)
      have m2 : gs.length ≤ room := by unfold room; omega
      generalize rlogV last (lim6 p) gs = r at *
      repeat' (first | (show RR _ _ ((_, none, _) :: _) _ _ _ = _; first | refine y_mv ?_ | refine y_op ?_ | refine y_pt ?_ | refine y_pf ?_ | refine y_op0 ?_ | refine y_call ?_ (ha := by first | exact sameGots (by assumption) | assumption) | refine y_call0 ?_ (ha := by first | exact sameGots (by assumption) | assumption) | refine y_ext ?_ | fail) | (show RR _ _ ((some _, _, _) :: _) _ _ _ = _; first | refine y_fF ?_ | refine y_nF ?_ | refine y_fT ?_ | refine y_nT ?_ | refine w_ifD rfl (fun _ => ?_) (fun _ => ?_) | refine w_ifE rfl (fun _ => ?_) (fun _ => ?_) | refine w_ifN rfl (fun _ => ?_) (fun _ => ?_) | refine w_if rfl (fun _ => ?_) (fun _ => ?_) | fail) | (show RR _ _ [] _ _ _ = _; refine y_reg ?_) | (show R _ _ _ _ _ _ = _; first | refine r_seq ?_ | refine R_reg rfl ?_ | refine r_ret ?_ | refine r_nop ?_ | refine y_ct ?_ | refine y_cf ?_ | refine y_iD (fun _ => ?_) (fun _ => ?_) | refine y_iE (fun _ => ?_) (fun _ => ?_) | refine y_iN (fun _ => ?_) (fun _ => ?_) | refine y_i (fun _ => ?_) (fun _ => ?_) | refine r_blk ?_ | refine r_exit ?_ | fail) | (show RR _ _ ((none, _, _) :: _) _ _ _ = _; first | refine y_zF ?_ | refine y_nF ?_ | refine y_zT ?_ | refine y_nT ?_ | fail) | refine k_seq_nrm ?_ | refine k_seq_ret ?_ | refine k_seq_exit ?_ | refine k_blk_nrm ?_ | refine k_blk_ret ?_ | refine k_blk_hit ?_ | refine k_blk_miss (by decide) ?_ | refine k_lp_ret ?_ | refine k_lp_exit ?_ | refine y_fin ?_ | fail)
      rfl
end Go.Abs
