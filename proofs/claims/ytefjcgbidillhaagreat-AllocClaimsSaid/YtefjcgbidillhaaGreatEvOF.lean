/- THE CODE OF A BODY: what the evaluator says comes so. -/
import Derived.Test.YtefjcgbidillhaaGreatEvOE
import Derived.LoopN
namespace Go.Proofs.YtefjcgbidillhaaGreat
open Go
open Go.RowKit (Below)
namespace Ev
set_option linter.unusedVariables false

def Ex.toExit : Ex → Exit
  | .normal => .normal
  | .exit id => .exit id
  | .ret => .ret

theorem keepT_less (k : List Nat) : ∀ (i : Nat) (T : List A), F2 LessA (keepT k i T) T
  | _, [] => trivial
  | i, a :: T => ⟨by cases h : k.elem i <;> simp only [LessA]; exact .inr rfl; exact .inl rfl, keepT_less k (i + 1) T⟩

theorem keepM_get {α : Type} (k : List Nat) : ∀ (i : Nat) (l : List (Option α)) (j : Nat) (x : α), (keepM k i l)[j]? = some (some x) → l[j]? = some (some x)
  | _, [], j, x, h => by simp [keepM] at h
  | i, a :: l, 0, x, h => by
    simp only [keepM, List.getElem?_cons_zero, Option.some.injEq] at h
    cases hk : k.elem i with
    | true => rw [hk] at h; simp only [if_true] at h; simp [h]
    | false => rw [hk] at h; simp at h
  | i, a :: l, j + 1, x, h => by
    simp only [keepM, List.getElem?_cons_succ] at h ⊢
    exact keepM_get k (i + 1) l j x h

theorem keepM_at {α : Type} (k : List Nat) (fb : Nat) (l : List (Option α)) (b : Nat) (x : α) (h : (l.take fb ++ keepM k 0 (l.drop fb))[b]? = some (some x)) : l[b]? = some (some x) := by
  rcases Nat.lt_or_ge b (l.take fb).length with h' | h'
  · rw [List.getElem?_append_left h'] at h
    rw [List.getElem?_take] at h
    split at h
    · exact h
    · cases h
  · rw [List.getElem?_append_right h'] at h
    have h2 := keepM_get k 0 _ _ x h
    rw [List.getElem?_drop] at h2
    have : (l.take fb).length = fb := by
      rw [List.length_take]
      rcases Nat.le_total fb l.length with h3 | h3
      · omega
      · rw [List.drop_eq_nil_of_le h3] at h; simp [keepM] at h
    rw [this] at h2 h'
    rwa [show fb + (b - fb) = b by omega] at h2

section
variable {P : Program} {E : Env} {N : Nat → Prop} {fb : Nat} {w0 w w' : World} {σ σ' : Wh} {S S' : St} {a : Act} {call : CallT}

theorem getB_some {m : Mem} {b : Nat} {l : List C} : getB m b = some l ↔ m.boxes[b]? = some (some l) := by
  unfold getB
  cases h : m.boxes[b]? with
  | none => simp
  | some o => cases o <;> simp
theorem getO_some {m : Mem} {b : Nat} {l : Own} : getO m b = some l ↔ m.owns[b]? = some (some l) := by
  unfold getO
  cases h : m.owns[b]? with
  | none => simp
  | some o => cases o <;> simp

theorem Sim.norm (h : Sim N fb w0 σ S a w) (k : Option (List Nat × List Nat × List Nat)) : Sim N fb w0 σ (normS fb k S) a w := by
  cases k with
  | none => exact h
  | some k =>
    obtain ⟨t, b, o⟩ := k
    refine h.less (keepT_less t 0 S.tmps) (fun b' l hl => ?_) (fun i o' ho => ?_)
    · rw [getB_some] at hl ⊢
      exact keepM_at _ _ _ _ _ hl
    · rw [getO_some] at ho ⊢
      exact keepM_at _ _ _ _ _ ho

/-- What is said of a loop. -/
def SumAt (P : Program) (c : Code) (g : Nat → St → (Ex → St → Option A) → Option A) : Prop :=
  ∀ (N : Nat → Prop) (fb : Nat) (w0 : World) (S : St) (a : Act) (w : World) (σ : Wh) (k : Ex → St → Option A) (x : A) (Q : Exit → Act → World → Prop), Sim N fb w0 σ S a w → g fb S k = some x →
    (∀ y σ' S' a' w', Sim N fb w0 σ' S' a' w' → k y S' = some x → Q y.toExit a' w') → (Code.loop c).wp P Q a w

def SumIn (P : Program) (E : Env) (f : FuncId) (c : Code) (cur : Nat) : Prop := ∀ p ∈ loopsOf c cur, ∀ g, E.sum f p.1 = some g → SumAt P p.2 g

theorem loop_ok {R : Type} {c : Code} {body : St → (Ex → St → Option R) → Option R} {norm : St → St} {x : R} {Q : Exit → Act → World → Prop} {k : Ex → St → Option R}
    (hn : ∀ {S a w σ}, Sim N fb w0 σ S a w → Sim N fb w0 σ (norm S) a w)
    (hb : ∀ (S : St) (a : Act) (w : World) (σ : Wh) (k : Ex → St → Option R) (Q : Exit → Act → World → Prop), Sim N fb w0 σ S a w → body S k = some x → (∀ y σ' S' a' w', Sim N fb w0 σ' S' a' w' → k y S' = some x → Q y.toExit a' w') → c.wp P Q a w)
    (hQ : ∀ y σ' S' a' w', Sim N fb w0 σ' S' a' w' → k y S' = some x → Q y.toExit a' w') :
    ∀ (n : Nat) (S : St) (a : Act) (w : World) (σ : Wh), Sim N fb w0 σ S a w → loopN body norm n S k = some x → Code.rounds P c Q n a w
  | 0, S, a, w, σ, h, e => by simp [loopN] at e
  | n + 1, S, a, w, σ, h, e => by
    simp only [loopN] at e
    rw [rounds_succ]
    refine hb (norm S) a w σ _ _ (hn h) e fun y σ' S' a' w' h' hk => ?_
    cases y with
    | normal => exact loop_ok hn hb hQ n S' a' w' σ' h' hk
    | exit id => exact hQ (.exit id) σ' S' a' w' h' hk
    | ret => exact hQ .ret σ' S' a' w' h' hk

theorem ev_ok (hE : EnvOK P E) (hO : OwnOK P E) (hc : CallOK P call) (f : FuncId) (x : A) : ∀ (c : Code) (cur : Nat) (S : St) (a : Act) (w : World) (σ : Wh) (k : Ex → St → Option A) (Q : Exit → Act → World → Prop), SumIn P E f c cur →
    Sim N fb w0 σ S a w → ev E call f fb c cur S k = some x → (∀ y σ' S' a' w', Sim N fb w0 σ' S' a' w' → k y S' = some x → Q y.toExit a' w') → c.wp P Q a w
  | .skip, cur, S, a, w, σ, k, Q, hs, h, e, hQ => wp_skip (hQ .normal σ S a w h e)
  | .region id ops draw, cur, S, a, w, σ, k, Q, hs, h, e, hQ => by
    cases draw with
    | false =>
      simp only [ev] at e
      exact wp_region_list (evOps_ok hE hO hc ops.toList h e fun σ' S' a' w' h' hk => hQ .normal σ' S' a' w' h' hk)
    | true =>
      simp only [ev] at e
      split at e
      · rename_i hd
        split at e
        · rename_i hf
          exact region_draw_ok hE hO hc h hd hf e fun σ' S' a' w' h' hk => hQ .normal σ' S' a' w' h' hk
        · cases e
      · cases e
  | .seq c d, cur, S, a, w, σ, k, Q, hs, h, e, hQ => by
    simp only [ev] at e
    refine wp_seq (ev_ok hE hO hc f x c cur S a w σ _ _ (fun p hp => hs p (List.mem_append_left _ hp)) h e fun y σ' S' a' w' h' hk => ?_)
    cases y with
    | normal => exact ev_ok hE hO hc f x d cur S' a' w' σ' k Q (fun p hp => hs p (List.mem_append_right _ hp)) h' hk hQ
    | exit id => exact hQ (.exit id) σ' S' a' w' h' hk
    | ret => exact hQ .ret σ' S' a' w' h' hk
  | .cond cd c d, cur, S, a, w, σ, k, Q, hs, h, e, hQ => by
    simp only [ev] at e
    split at e
    · rename_i r hr
      have hv := evalA_ok h cd
      rw [hr] at hv
      have hv := of_RA_v hv
      cases r with
      | true => exact wp_cond_true hv (ev_ok hE hO hc f x c cur S a w σ k Q (fun p hp => hs p (List.mem_append_left _ hp)) h e hQ)
      | false => exact wp_cond_false hv (ev_ok hE hO hc f x d cur S a w σ k Q (fun p hp => hs p (List.mem_append_right _ hp)) h e hQ)
    · cases e
  | .block id c, cur, S, a, w, σ, k, Q, hs, h, e, hQ => by
    simp only [ev] at e
    refine wp_block (ev_ok hE hO hc f x c id S a w σ _ _ hs h e fun y σ' S' a' w' h' hk => ?_)
    cases y with
    | normal => exact hQ .normal σ' S' a' w' h' hk
    | exit id' =>
      simp only at hk
      show Exit.inBlock id Q (.exit id') a' w'
      simp only [Exit.inBlock]
      split at hk
      · rename_i hid
        rw [if_pos (Nat.eq_of_beq_eq_true hid)]
        exact hQ .normal σ' _ a' w' (h'.norm _) hk
      · rename_i hid
        rw [if_neg fun he => hid (by rw [he]; exact Nat.beq_refl id)]
        exact hQ (.exit id') σ' S' a' w' h' hk
    | ret => exact hQ .ret σ' S' a' w' h' hk
  | .loop c, cur, S, a, w, σ, k, Q, hs, h, e, hQ => by
    simp only [ev] at e
    split at e
    · rename_i g hg
      exact hs (cur, c) (List.mem_cons_self ..) g hg N fb w0 _ a w σ k x Q (h.norm _) e hQ
    · refine wp_loop_rounds E.F (loop_ok (fun h => h.norm _) ?_ hQ E.F S a w σ h e)
      intro S a w σ k Q h e hQ
      exact ev_ok hE hO hc f x c cur S a w σ k Q (fun p hp => hs p (List.mem_cons_of_mem _ hp)) h e hQ
  | .exit id, cur, S, a, w, σ, k, Q, hs, h, e, hQ => wp_exit (hQ (.exit id) σ S a w h e)
  | .ret, cur, S, a, w, σ, k, Q, hs, h, e, hQ => wp_ret (hQ .ret σ S a w h e)
  | .rangeFunc _ _ _ _, _, _, _, _, _, _, _, _, _, e, _ => by simp [ev] at e
  | .label _, _, _, _, _, _, _, _, _, _, e, _ => by simp [ev] at e
  | .goto _, _, _, _, _, _, _, _, _, _, e, _ => by simp [ev] at e
  | .scope _, _, _, _, _, _, _, _, _, _, e, _ => by simp [ev] at e

/-- A loop's summary, from the evaluator's rounds. -/
theorem sumAt_of_rounds (hE : EnvOK P E) (hO : OwnOK P E) (hc : CallOK P call) {f : FuncId} {c : Code} {cur : Nat} {k0 : Option (List Nat × List Nat × List Nat)} {g : Nat → St → (Ex → St → Option A) → Option A} (hs : SumIn P E f c cur)
    (hg : ∀ fb S k x, g fb S k = some x → ∃ n, loopN (ev E call f fb c cur) (normS fb k0) n S k = some x) : SumAt P c g := by
  intro N fb w0 S a w σ k x Q h e hQ
  obtain ⟨n, hn⟩ := hg fb S k x e
  refine wp_loop_rounds n (loop_ok (fun h => h.norm _) ?_ hQ n S a w σ h hn)
  intro S a w σ k Q h e hQ
  exact ev_ok hE hO hc f x c cur S a w σ k Q hs h e hQ

end
end Ev
end Go.Proofs.YtefjcgbidillhaaGreat
