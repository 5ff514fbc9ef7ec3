/-
  Code: blocks, loops, tests.
-/
import Derived.Test.YtcfefgeheibadaaAbsD
namespace Go.Abs
open Go.RowKit (Below)

def Ex.exit' : Ex → Exit
  | .nrm => .normal
  | .ret => .ret
  | .exit id => .exit id

theorem eins_perm (s : Nat) (v : V) : ∀ e : Env, (eins s v e).Perm ((s, v) :: e)
  | [] => .refl _
  | (t, u) :: e => by
    unfold eins
    split
    · exact .refl _
    · exact ((eins_perm s v e).cons (t, u)).trans (List.Perm.swap _ _ _)
theorem ekeep_perm (l : List Nat) : ∀ e : Env, ∃ e0 : Env, e0.Sublist e ∧ (ekeep l e).Perm e0
  | [] => ⟨[], .refl _, .refl _⟩
  | (s, v) :: e => by
    obtain ⟨e0, h1, h2⟩ := ekeep_perm l e
    simp only [ekeep]
    split
    · exact ⟨(s, v) :: e0, h1.cons_cons _, (eins_perm s v _).trans (h2.cons _)⟩
    · exact ⟨e0, h1.cons _, h2⟩

section
variable {P : Program} {lim : Option Nat} {B : Nat} {F : List Nat} {nt : Nat} {T : Orc} {pure : FuncId → Bool}

theorem ER.keep {S : Nat → Nat → Prop} {bl l : List Nat} {e : Env} {H : Heap} {a : Act} {w : World} (h : ER lim B F nt S bl e H a w) : ER lim B F nt S bl (ekeep l e) H a w := by
  obtain ⟨e0, h1, h2⟩ := ekeep_perm l e
  exact (h.sub h1).perm h2

/-- Fewer objects, where nobody names the others. -/
theorem sim_trim {S S0 : Nat → Nat → Prop} {bl bl' : List Nat} {e : Env} {H H' : Heap} {a : Act} {w w0 : World} (hl : H.length = bl.length) (hw : ∀ (i : Nat) cs, H[i]? = some cs → V.rbL H.length cs = true) (h : ER lim B F nt S bl' e H' a w) (x : Ext lim B F S0 bl H w0 S bl' H' w) :
    ∃ bl'', ER lim B F nt S bl'' e (trim lim H e H') a w ∧ Ext lim B F S0 bl H w0 S bl'' (trim lim H e H') w := by
  unfold trim
  split
  · rename_i l
    split
    · rename_i hh
      obtain ⟨h1, h2, h3, h4⟩ := hh
      rw [List.all_eq_true] at h3
      refine ⟨bl'.take H.length, ⟨h.nodup, h.bnd, ?_, h.size, h.defers, h.room⟩, ⟨x.keeps, x.frame, x.below, fun i b hb => ?_, ?_, fun l' hl' => ⟨(x.objs l' hl').1, ?_⟩⟩⟩
      · refine h.st.cut (m := H.length) (fun p hp => ?_) ⟨l, rfl, h1, fun i cs q1 q2 q3 => St.kept_all hw h4 i cs q1 q2 q3⟩ (by omega)
        obtain ⟨q, hq, rfl⟩ := List.mem_map.1 hp
        exact h3 q hq
      · have := (List.getElem?_eq_some_iff.1 hb).1
        rw [List.getElem?_take, if_pos (by omega)]
        exact x.bls i b hb
      · rw [List.length_take]; omega
      · cases hl'
        rw [List.take_take, Nat.min_eq_left h1]
        exact (x.objs l rfl).2
    · exact ⟨bl', h, x⟩
  · exact ⟨bl', h, x⟩

theorem sim_code (hT : CallOK P T) (hO : OrcOK T pure) (hm : P.follows .mixedOrders = true) (k : Nat) : ∀ (x : C) (c : Code) {Q : Exit → Act → World → Prop} {ex : Ex} {e e' : Env} {H H' : Heap} {a : Act} {w : World} {S : Nat → Nat → Prop} {bl : List Nat},
    okC P nt pure c x = true → exL T lim k x e H = some (ex, e', H') → ER lim B F nt S bl e H a w → (∀ a' w' S' bl', ER lim B F nt S' bl' e' H' a' w' → Ext lim B F S bl H w S' bl' H' w' → Q ex.exit' a' w') → c.wp P Q a w
  | .nop, c, Q, ex, e, e', H, H', a, w, S, bl, hok, hx, h, hQ => by
    cases c <;> simp only [okC] at hok <;> try cases hok
    cases hx
    exact wp_skip (hQ _ _ _ _ h (Ext.refl _ _ _ _ _ _ _))
  | .exit i, c, Q, ex, e, e', H, H', a, w, S, bl, hok, hx, h, hQ => by
    cases c <;> simp only [okC] at hok <;> try cases hok
    rename_i j
    simp only [beq_iff_eq] at hok
    subst hok
    cases hx
    exact wp_exit (hQ _ _ _ _ h (Ext.refl _ _ _ _ _ _ _))
  | .ret, c, Q, ex, e, e', H, H', a, w, S, bl, hok, hx, h, hQ => by
    cases c <;> simp only [okC] at hok <;> try cases hok
    cases hx
    exact wp_ret (hQ _ _ _ _ h (Ext.refl _ _ _ _ _ _ _))
  | .reg keep conf free fps rows, c, Q, ex, e, e', H, H', a, w, S, bl, hok, hx, h, hQ => by
    cases c <;> simp only [okC] at hok <;> try cases hok
    rename_i id ops draw
    simp only [Bool.and_eq_true] at hok
    simp only [exL] at hx
    split at hx
    · cases hx
    · rename_i hc
      obtain ⟨⟨E, HE⟩, h1, h2⟩ := Option.bind_eq_some_iff.1 hx
      simp only at h2
      split at h2
      · rename_i hh
        simp only [Bool.and_eq_true] at hh
        cases h2
        cases draw with
        | false => exact sim_region hT hok.1 h1 h fun a' w' S' bl' g y => hQ _ _ _ _ (ER.keep g) y
        | true =>
          exact sim_draw hT hO hm hok.1 (by simpa using hok.2) h1 (by simpa using hc) hh.1.1 hh.1.2 hh.2 h fun a' w' S' bl' g y => hQ _ _ _ _ (ER.keep g) y
      · cases h2
  | .seq x y, c, Q, ex, e, e', H, H', a, w, S, bl, hok, hx, h, hQ => by
    cases c <;> simp only [okC] at hok <;> try cases hok
    simp only [Bool.and_eq_true] at hok
    obtain ⟨⟨ex1, e1, H1⟩, h1, h2⟩ := Option.bind_eq_some_iff.1 (show (exL T lim k x e H).bind _ = some (ex, e', H') from hx)
    refine wp_seq (sim_code hT hO hm k x _ hok.1 h1 h fun a' w' S' bl' g z => ?_)
    cases ex1 with
    | nrm => exact sim_code hT hO hm k y _ hok.2 h2 g fun a'' w'' S'' bl'' g' z' => hQ _ _ _ _ g' (z.trans z')
    | ret => cases h2; exact hQ _ _ _ _ g z
    | exit i => cases h2; exact hQ _ _ _ _ g z
  | .cnd z x y, c, Q, ex, e, e', H, H', a, w, S, bl, hok, hx, h, hQ => by
    cases c <;> simp only [okC] at hok <;> try cases hok
    rename_i oc c1 c2
    simp only [Bool.and_eq_true] at hok
    obtain ⟨⟨v, e1⟩, h1, h2⟩ := Option.bind_eq_some_iff.1 (show (evX z e).bind _ = some (ex, e', H') from hx)
    cases v <;> try cases h2
    rename_i t
    obtain ⟨g, hs⟩ := evX_st (us := []) hok.1.1 h1 h.nodup h.st
    have hb := (g.rep _ (List.mem_cons_self ..)).bool_inv
    have h3 := h.sub hs
    refine wp_cond hb ?_
    cases t with
    | true => exact sim_code hT hO hm k x _ hok.1.2 h2 h3 hQ
    | false => exact sim_code hT hO hm k y _ hok.2 h2 h3 hQ
  | .blk j x, c, Q, ex, e, e', H, H', a, w, S, bl, hok, hx, h, hQ => by
    cases c <;> simp only [okC] at hok <;> try cases hok
    rename_i i c
    simp only [Bool.and_eq_true, beq_iff_eq] at hok
    obtain ⟨rfl, hok⟩ := hok
    obtain ⟨⟨ex1, e1, H1⟩, h1, h2⟩ := Option.map_eq_some_iff.1 (show (exL T lim k x e H).map _ = some (ex, e', H') from hx)
    refine wp_block (sim_code hT hO hm k x _ hok h1 h fun a' w' S' bl' g z => ?_)
    cases ex1 with
    | nrm => cases h2; exact hQ _ _ _ _ g z
    | ret => cases h2; exact hQ _ _ _ _ g z
    | exit j =>
      simp only at h2
      by_cases hj : j = i
      · rw [if_pos hj] at h2
        cases h2
        simp only [Ex.exit', Exit.inBlock, if_pos hj]
        exact hQ _ _ _ _ g z
      · rw [if_neg hj] at h2
        cases h2
        simp only [Ex.exit', Exit.inBlock, if_neg hj]
        exact hQ _ _ _ _ g z
  | .loop x, c, Q, ex, e, e', H, H', a, w, S, bl, hok, hx, h, hQ => by
    cases c <;> simp only [okC] at hok <;> try cases hok
    rename_i c
    have key : ∀ (n : Nat) {e : Env} {H : Heap} {a : Act} {w : World} {S : Nat → Nat → Prop} {bl : List Nat}, loopN lim (exL T lim k x) n e H = some (ex, e', H') → ER lim B F nt S bl e H a w →
        (∀ a' w' S' bl', ER lim B F nt S' bl' e' H' a' w' → Ext lim B F S bl H w S' bl' H' w' → Q ex.exit' a' w') → Code.rounds P c Q n a w := by
      intro n
      induction n with
      | zero => intro e H a w S bl hx; cases hx
      | succ n ih =>
        intro e H a w S bl hx h hQ
        obtain ⟨⟨ex1, e1, H1⟩, h1, h2⟩ := Option.bind_eq_some_iff.1 (show (exL T lim k x e H).bind _ = some (ex, e', H') from hx)
        rw [rounds_succ]
        refine sim_code hT hO hm k x c hok h1 h fun a' w' S' bl' g z => ?_
        cases ex1 with
        | nrm =>
          obtain ⟨bl'', g1, z1⟩ := sim_trim h.st.len h.st.wf g z
          exact ih h2 g1 fun a'' w'' S'' bl'' g' z' => hQ _ _ _ _ g' (z1.trans z')
        | ret => cases h2; exact hQ _ _ _ _ g z
        | exit i => cases h2; exact hQ _ _ _ _ g z
    exact wp_loop_rounds k (key k hx h hQ)
end
end Go.Abs
