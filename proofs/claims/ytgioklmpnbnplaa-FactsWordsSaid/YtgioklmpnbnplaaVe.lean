/- The plan of a region that draws is sound; the verification condition of a function's code; the entry of a function. Conditions: none. -/
import Derived.Test.YtgioklmpnbnplaaVd
set_option linter.unusedSimpArgs false
set_option linter.unusedVariables false
namespace Go.V
open Go.RowKit

theorem lift_panic (n : Nat) (Q : Ex → Fr → World → Prop) (x : Option Tmp) (v : Value) : ∀ c a w, lift n Q (.panic c) (Act.put a x v) w → lift n Q (.panic c) a w := fun _ _ _ h => h.elim
theorem wpOp_of {P : Program} {ops : Array Oper} {Q : Exit → Act → World → Prop} {i : Nat} {o : Oper} {K : Act → World → Prop} {a : Act} {w : World} (hi : ops[i]? = some o)
    (h1 : Region.wanted o (yielded ops a.tmps) = true → o.wp P a w K Q) (h2 : Region.wanted o (yielded ops a.tmps) = false → K (a.put o.dst undef) w) : wpOp P ops Q i K a w := by
  unfold wpOp
  simp only [hi]
  cases hw : Region.wanted o (yielded ops a.tmps) with
  | true => simp only [if_true]; exact .inl (h1 hw)
  | false => simp only [Bool.false_eq_true, if_false]; exact h2 hw
theorem wanted_false {ops : Array Oper} {n : Nat} {t : Fr} {o : Oper} (h : Region.wanted o (yielded ops (act n t).tmps) = false) : ∃ j b, o.guard = some (j, b) ∧ gval ops n t j ≠ .bool b := by
  cases hg : o.guard with
  | none => have := (wanted_iff ops n t o).2 (.inl hg); rw [h] at this; cases this
  | some jb =>
    obtain ⟨j, b⟩ := jb
    refine ⟨j, b, rfl, fun e => ?_⟩
    have := (wanted_iff ops n t o).2 (.inr ⟨j, b, hg, e⟩)
    rw [h] at this; cases this
theorem waits_spec {ops : Array Oper} {need : Nat → Bool} {i : Nat} (h : waits ops need i = true) : ∀ j oj, ops[j]? = some oj → need j = false → j ≠ i → ∃ e ∈ oj.after, Region.binds .any e = true ∧ e.on = i := by
  intro j oj hj hn hne
  have hlt : j < ops.size := (Array.getElem?_eq_some_iff.1 hj).1
  have := List.all_eq_true.1 h j (List.mem_range.2 hlt)
  simp only [hn, hj, Bool.false_or, Bool.or_eq_true, beq_iff_eq, hne, false_or] at this
  obtain ⟨e, he, hb⟩ := Array.any_eq_true'.1 this
  simp only [Bool.and_eq_true, beq_iff_eq] at hb
  exact ⟨e, he, hb.1, hb.2⟩
theorem vpl_sound {P : Program} {n : Nat} {ops : Array Oper} {Q : Ex → Fr → World → Prop} {M : List Nat} {need : Nat → Bool} (hs : Region.noSelect ops = true) :
    ∀ (l : List Nat) (fuel : Nat) (listed : Array Bool) (t : Fr) (w : World), planOk ops need l listed = true → l.length ≤ fuel → vpl P n ops Q M need l t w →
      wpR P ops (lift n Q) (Keep M) need fuel listed (act n t) w
  | [], fuel, listed, t, w, hp, hl, h => by
    have hr : Region.ready .any ops listed = [] := by simpa [planOk] using hp
    cases fuel with
    | zero => exact ⟨hr, t, rfl, h⟩
    | succ fuel => exact ⟨fun _ => ⟨t, rfl, h⟩, by rw [hr]; simp⟩
  | i :: l, 0, listed, t, w, hp, hl, h => by simp at hl
  | i :: l, fuel + 1, listed, t, w, hp, hl, h => by
    simp only [planOk, Bool.and_eq_true] at hp
    obtain ⟨hp1, hp2⟩ := hp
    have hl' : l.length ≤ fuel := by simpa using hl
    have ih := fun t w => vpl_sound (P := P) (n := n) (Q := Q) (M := M) hs l fuel (listed.setIfInBounds i true) t w hp2 hl'
    simp only [vpl] at h
    cases ho : ops[i]? with
    | none => simp only [ho] at h
    | some o =>
      simp only [ho] at hp1 h
      by_cases hro : isRo o.op = true
      · simp only [hro, if_true, Bool.and_eq_true] at hp1
        obtain ⟨⟨hfree, hready⟩, hwaits⟩ := hp1
        have hway : way o.op = .ro := by
          unfold isRo at hro
          cases hw : way o.op <;> simp [hw] at hro ⊢
        have core : ∀ v, YieldsIf P ops (Keep M w) o v (act n t) → vpl P n ops Q M need l (updO t o.dst v) w → wpR P ops (lift n Q) (Keep M) need (fuel + 1) listed (act n t) w := by
          intro v hy hv
          refine wpR_first (Keep.refl M) (fun _ _ _ => Keep.trans) ho (Region.noSelect_spec hs) (lift_panic n Q o.dst v) (waits_spec hwaits) fuel listed _ w (Region.free_spec ho hfree) (by simpa using hready) hy ?_
          rw [act_put]; exact ih _ _ hv
        have yields : ∀ v, ro P n t w o.op = some v → RF M n t o.op → Region.wanted o (yielded ops (act n t).tmps) = true → YieldsIf P ops (Keep M w) o v (act n t) := by
          intro v hv hrf hw
          refine .inl ⟨hw, fun w' hk => ?_⟩
          rw [act_eval']
          exact ro_sound (ro_keep hk hrf hv)
        have run : vopK P n o t w M (need i) (fun v w' => vpl P n ops Q M need l (updO t o.dst v) w') → Region.wanted o (yielded ops (act n t).tmps) = true →
            wpR P ops (lift n Q) (Keep M) need (fuel + 1) listed (act n t) w := by
          intro hk hw
          unfold vopK at hk
          simp only [hway] at hk
          obtain ⟨v, hv, hrf, hk⟩ := hk
          exact core v (yields v hv hrf hw) hk
        cases hg : o.guard with
        | none => simp only [hg] at h; exact run h ((wanted_iff ops n t o).2 (.inl hg))
        | some jb =>
          obtain ⟨j, b⟩ := jb
          simp only [hg] at h
          by_cases hv : gval ops n t j = .bool b
          · exact run (h.1 hv) ((wanted_iff ops n t o).2 (.inr ⟨j, b, hg, hv⟩))
          · refine core undef (.inr ⟨?_, rfl⟩) (h.2 hv)
            cases hw : Region.wanted o (yielded ops (act n t).tmps) with
            | false => rfl
            | true =>
              rcases (wanted_iff ops n t o).1 hw with h0 | ⟨j', b', h0, h1⟩
              · rw [hg] at h0; cases h0
              · rw [hg] at h0; cases h0; exact absurd h1 hv
      · simp only [hro] at hp1
        have hready : Region.ready .any ops listed = [i] := by simpa using hp1
        have hway : way o.op ≠ .ro := fun e => hro (by simp [isRo, e])
        refine ⟨fun h0 => (by rw [hready] at h0; cases h0), fun i' hi' => ?_⟩
        rw [hready] at hi'
        obtain rfl : i' = i := by simpa using hi'
        have run : vopK P n o t w M (need i') (fun v w' => vpl P n ops Q M need l (updO t o.dst v) w') →
            o.wp P (act n t) w (fun a' w' => (need i' = true → Keep M w w') ∧ wpR P ops (lift n Q) (Keep M) need fuel (listed.setIfInBounds i' true) a' w') (lift n Q) := by
          intro hk
          have hk' : vop P n o t w fun v w' => (need i' = true → Keep M w w') ∧ vpl P n ops Q M need l (updO t o.dst v) w' := by
            unfold vopK at hk
            cases hw : way o.op <;> simp only [hw] at hk hway
            · exact absurd rfl hway
            · exact hk
            · exact hk
          refine vop_sound hk' fun v w' hh => ⟨hh.1, ?_⟩
          rw [act_put]; exact ih _ _ hh.2
        refine wpOp_of ho (fun hw => ?_) (fun hw => ?_)
        · rcases (wanted_iff ops n t o).1 hw with hg | ⟨j, b, hg, hv⟩
          · simp only [hg] at h; exact run h
          · simp only [hg] at h; exact run (h.1 hv)
        · obtain ⟨j, b, hg, hv⟩ := wanted_false hw
          simp only [hg] at h
          refine ⟨fun _ => Keep.refl M w, ?_⟩
          rw [act_put]; exact ih _ _ (h.2 hv)

/-! code -/
def Ex.then (K : Fr → World → Prop) (Q : Ex → Fr → World → Prop) : Ex → Fr → World → Prop
  | .normal, t, w => K t w
  | e, t, w => Q e t w
def Ex.blk (id : Nat) (Q : Ex → Fr → World → Prop) : Ex → Fr → World → Prop
  | .exit i, t, w => if i = id then Q .normal t w else Q (.exit i) t w
  | e, t, w => Q e t w
/-- A region that draws. -/
def Dr (P : Program) (n : Nat) (ops : Array Oper) (Q : Ex → Fr → World → Prop) (t : Fr) (w : World) : Prop :=
  ∀ id, (Code.region id ops true).wp P (lift n Q) (act n t) w
/-- A loop: I speaks of the rounds that may still come. -/
def Lp (V : (Ex → Fr → World → Prop) → Fr → World → Prop) (Q : Ex → Fr → World → Prop) (t : Fr) (w : World) : Prop :=
  ∃ I : Nat → Fr → World → Prop, (∃ k, I k t w) ∧ ∀ k t w, I k t w → V (Ex.then (fun t' w' => ∃ k', k' < k ∧ I k' t' w') Q) t w
def vc (P : Program) (n : Nat) : Code → (Ex → Fr → World → Prop) → Fr → World → Prop
  | .skip, Q, t, w => Q .normal t w
  | .label _, Q, t, w => Q .normal t w
  | .seq a b, Q, t, w => vc P n a (Ex.then (vc P n b Q) Q) t w
  | .cond c x y, Q, t, w => Br (ev n t c) (vc P n x Q t w) (vc P n y Q t w)
  | .block id c, Q, t, w => vc P n c (Ex.blk id Q) t w
  | .loop c, Q, t, w => Lp (vc P n c) Q t w
  | .exit id, Q, t, w => Q (.exit id) t w
  | .goto l, Q, t, w => Q (.goto l) t w
  | .ret, Q, t, w => Q .ret t w
  | .region _ ops false, Q, t, w => vops P n ops Q ops.toList t w
  | .region _ ops true, Q, t, w => Dr P n ops Q t w
  | .rangeFunc f ps a b, Q, t, w => (Code.rangeFunc f ps a b).wp P (lift n Q) (act n t) w
  | .scope b, Q, t, w => (Code.scope b).wp P (lift n Q) (act n t) w
  | .refuse r, Q, t, w => False
theorem lift_then {n : Nat} {K : Fr → World → Prop} {K' : Act → World → Prop} {Q : Ex → Fr → World → Prop} (hK : ∀ t w, K t w → K' (act n t) w) :
    ∀ e a w, lift n (Ex.then K Q) e a w → Exit.then K' (lift n Q) e a w := by
  intro e a w h
  cases e <;> simp only [lift, Ex.then, Exit.then] at h ⊢ <;> try exact h
  obtain ⟨t, rfl, h⟩ := h
  exact hK _ _ h
theorem vc_sound {P : Program} {n : Nat} : ∀ (c : Code) (Q : Ex → Fr → World → Prop) (t : Fr) (w : World), vc P n c Q t w → c.wp P (lift n Q) (act n t) w
  | .skip, Q, t, w, h => wp_skip ⟨t, rfl, h⟩
  | .label _, Q, t, w, h => wp_label ⟨t, rfl, h⟩
  | .seq a b, Q, t, w, h => wp_seq (wp_mono (vc_sound a _ t w h) (lift_then fun t w h => vc_sound b Q t w h))
  | .cond c x y, Q, t, w, h => by
    rcases h with ⟨hc, h⟩ | ⟨hc, h⟩
    · exact wp_cond_true (by rw [act_eval]; exact hc) (vc_sound x Q t w h)
    · exact wp_cond_false (by rw [act_eval]; exact hc) (vc_sound y Q t w h)
  | .block id c, Q, t, w, h => by
    refine wp_block (wp_mono (vc_sound c _ t w h) ?_)
    intro e a w h
    cases e <;> simp only [lift, Ex.blk, Exit.inBlock] at h ⊢ <;> try exact h
    obtain ⟨t, rfl, h⟩ := h
    split
    · rename_i he; rw [if_pos he] at h; exact ⟨t, rfl, h⟩
    · rename_i he; rw [if_neg he] at h; exact ⟨t, rfl, h⟩
  | .loop c, Q, t, w, h => by
    obtain ⟨I, ⟨k, h0⟩, hr⟩ := h
    refine wp_loop_ghost (fun k a w => ∃ t, a = act n t ∧ I k t w) k ⟨t, rfl, h0⟩ ?_
    intro k a w hI
    obtain ⟨t, rfl, hI⟩ := hI
    refine wp_mono (vc_sound c _ t w (hr k t w hI)) (lift_then ?_)
    rintro t' w' ⟨k', hk, hI'⟩
    exact ⟨k', hk, t', rfl, hI'⟩
  | .exit id, Q, t, w, h => wp_exit ⟨t, rfl, h⟩
  | .goto l, Q, t, w, h => wp_goto ⟨t, rfl, h⟩
  | .ret, Q, t, w, h => wp_ret ⟨t, rfl, h⟩
  | .region id ops false, Q, t, w, h => wp_region_list (vops_sound _ t w h)
  | .region id ops true, Q, t, w, h => h id
  | .rangeFunc f ps a b, Q, t, w, h => h
  | .scope b, Q, t, w, h => h
  | .refuse r, Q, t, w, h => h.elim
/-- A region that draws, by a plan: what only reads is taken as soon as it can be; need i: operation i must leave what stood (outside M). -/
theorem Dr_plan {P : Program} {n : Nat} {ops : Array Oper} {Q : Ex → Fr → World → Prop} {t : Fr} {w : World} (M : List Nat) (need : Nat → Bool) (l : List Nat) (hm : P.follows .mixedOrders = true)
    (hp : (Region.noSelect ops && planOk ops need l (Array.replicate ops.size false) && Nat.ble l.length ops.size) = true) (h : vpl P n ops Q M need l t w.drew) : Dr P n ops Q t w := by
  intro id
  simp only [Bool.and_eq_true, Nat.ble_eq] at hp
  exact wp_region_any hm (wpAny_of_wpR _ _ _ _ (vpl_sound hp.1.1 l ops.size _ t _ hp.1.2 hp.2 h))

/-! the entry -/
def retV (P : Program) (n : Nat) (t : Fr) (w : World) : List ResultVar → Option (List Value)
  | [] => some []
  | .tmp i :: l => (retV P n t w l).map (ev n t (.tmp i) :: ·)
  | .cell a T :: l => match ldV P T w (ev n t (.tmp a)) with
    | some v => (retV P n t w l).map (v :: ·)
    | none => none
def tupV : List Value → Value
  | [v] => v
  | l => .tuple l.toArray
def post (P : Program) (n : Nat) (rs : List ResultVar) (R : Value → World → Prop) : Ex → Fr → World → Prop
  | .normal, t, w => ∃ l, retV P n t w rs = some l ∧ R (tupV l) w
  | .ret, t, w => ∃ l, retV P n t w rs = some l ∧ R (tupV l) w
  | _, _, _ => False
theorem getD_act (n : Nat) (t : Fr) (i : Nat) : (act n t).tmps.getD i undef = ev n t (.tmp i) := act_eval n t (.tmp i)
theorem run_results {P : Program} {n : Nat} {t : Fr} {w : World} (f : ResultVar → Sem Value)
    (hf : ∀ r, f r = match r with | .tmp i => pure ((act n t).tmps.getD i undef) | .cell a T => (do loadVar T (← asAddr ((act n t).tmps.getD a undef)))) :
    ∀ (l : List ResultVar) (vs : List Value), retV P n t w l = some vs → (l.mapM f).run P w = .ok vs w
  | [], vs, h => by simp only [retV, Option.some.injEq] at h; subst h; rfl
  | r :: l, vs, h => by
    have key : ∀ v vs', (f r).run P w = .ok v w → retV P n t w l = some vs' → ((r :: l).mapM f).run P w = .ok (v :: vs') w := by
      intro v vs' h1 h2
      simp only [List.mapM_cons, Sem.run_bind, h1, Result.andThen_ok, run_results f hf l vs' h2, Sem.run_pure]
    cases r with
    | tmp i =>
      simp only [retV] at h
      cases hr : retV P n t w l with
      | none => simp [hr] at h
      | some vs' =>
        simp only [hr, Option.map_some, Option.some.injEq] at h; subst h
        exact key _ _ (by rw [hf]; show Sem.run P (pure ((act n t).tmps.getD i undef)) w = _; rw [getD_act]; rfl) hr
    | cell a T =>
      simp only [retV] at h
      cases hl : ldV P T w (ev n t (.tmp a)) with
      | none => simp [hl] at h
      | some v =>
        simp only [hl] at h
        cases hr : retV P n t w l with
        | none => simp [hr] at h
        | some vs' =>
          simp only [hr, Option.map_some, Option.some.injEq] at h; subst h
          refine key _ _ ?_ hr
          have := ldV_sound hl
          rw [hf]
          show Sem.run P (do loadVar T (← asAddr ((act n t).tmps.getD a undef))) w = _
          rw [getD_act]
          simp only [Instr.loadAt, Sem.run_bind] at this ⊢
          generalize ev n t (.tmp a) = p at *
          cases p with
          | pointer a => cases a with
            | none => simp [Instr.sureAddr] at this
            | some a => simpa [Instr.sureAddr, asAddr] using this
          | _ => simp [Instr.sureAddr] at this
theorem post_sound {P : Program} {fn : Func} {R : Value → World → Prop} : ∀ e a w, lift fn.ntmps (post P fn.ntmps fn.results.toList R) e a w →
    bodyPost P fn (fun e w' => ∃ v, e = .returned v ∧ R v w') e a w := by
  intro e a w h
  have key : ∀ t l, retV P fn.ntmps t w fn.results.toList = some l → R (tupV l) w → (act fn.ntmps t).defers = [] ∧ ∃ v, (results fn (act fn.ntmps t).tmps).run P w = .ok v w ∧ ∃ v', Ending.returned v = .returned v' ∧ R v' w := by
    intro t l hl hR
    refine ⟨rfl, tupV l, ?_, _, rfl, hR⟩
    unfold results
    rw [← Array.toArray_toList (xs := fn.results)]
    simp only [List.mapM_toArray, Sem.run_bind, Sem.run_map]
    rw [run_results _ (fun r => by cases r <;> rfl) _ _ hl]
    simp only [Result.andThen_ok, Sem.run_pure]
    match l with
    | [] => rfl
    | [v] => rfl
    | _ :: _ :: _ => simp [tupV]
  cases e <;> simp only [lift, post, bodyPost] at h ⊢ <;> (try exact h.elim)
  · obtain ⟨t, rfl, l, hl, hR⟩ := h; exact key t l hl hR
  · obtain ⟨t, _, h⟩ := h; exact h
  · obtain ⟨t, _, h⟩ := h; exact h
  · obtain ⟨t, rfl, l, hl, hR⟩ := h; exact key t l hl hR
def fr (args : Array Value) : Fr := fun i => args.getD i undef
theorem act_fr (args : Array Value) (n : Nat) (h : args.size ≤ n) : act n (fr args) = { tmps := args ++ Array.replicate (n - args.size) undef, defers := [] } := by
  simp only [act, fr]
  congr 1
  apply Array.ext
  · simp; omega
  · intro i h1 h2
    simp at h1
    by_cases hi : i < args.size
    · simp [hi, Array.getElem_append]
    · simp [hi, Array.getElem_append]
theorem Ok.enter {P : Program} {f : Nat} {fn : Func} {c : Code} {args : Array Value} {w : World} {R : Value → World → Prop} (hf : P.funcs[f]? = some fn)
    (hb : fn.body = some c) (hname : (fn.name == "runtime.NumGoroutine") = false) (hs : args.size ≤ fn.ntmps)
    (h : vc P fn.ntmps c (post P fn.ntmps fn.results.toList R) (fr args) w) : Ok P f args w R := by
  refine ⟨⟨fn, hf, hname, by rw [hb]; rfl⟩, calls_of_wp hf hb ?_⟩
  rw [← act_fr args fn.ntmps hs]
  exact wp_mono (vc_sound c _ _ w h) post_sound
end Go.V
