/-
  Communication in one goroutine as a step of the ordinary walk: regions that hold a send, a receive, a select.
-/
import Derived.Test.YtojbehblgmpbgaaPlan
import Derived.Conc.LoneCalls
import Derived.Conc.LoneSelect
import Derived.Conc.LoneSelectN
namespace Go.Proofs.Ytojbehblgmpbgaa
open Go.RowKit Go.Conc
set_option linter.unusedVariables false

/-- Operation i of a region carries a lone goroutine from (a, w) to (a', w'). -/
def CommTo (P : Program) (ops : Array Oper) (i : Nat) (a : Act) (w : World) (a' : Act) (w' : World) : Prop :=
  ∀ (rest : List Nat) (b : Frame) (k : List Item) (cs : List Frame), step P (lone (b.at a (.inRegion ops (i :: rest) :: k)) cs w) = .next (lone (b.at a' (.inRegion ops rest :: k)) cs w')
/-- From within a region's list the post is reached. -/
def SemOps (P : Program) (ops : Array Oper) (Q : Exit → Act → World → Prop) (l : List Nat) (a : Act) (w : World) : Prop :=
  ∀ (b : Frame) (k : List Item) (cs : List Frame), ∃ e a' w', Q e a' w' ∧ Arrives P (lone (b.at a (.inRegion ops l :: k)) cs w) b k cs e a' w'

section
variable {P : Program} {ops : Array Oper} {Q : Exit → Act → World → Prop} {a : Act} {w : World}
theorem semOps_of {l : List Nat} (h : wpOps P ops Q l a w) : SemOps P ops Q l a w := wp_ops l a w h
theorem wp_region_sem {id : Nat} (h : SemOps P ops Q (List.range ops.size) a w) : (Code.region id ops false).wp P Q a w :=
  fun b k cs => let ⟨e, a', w', q, r⟩ := h b k cs; ⟨e, a', w', q, .of_steps (.one step_region) r⟩
theorem wp_region_draw_sem {id : Nat} (h : ∀ t, SemOps P ops Q (Region.schedule (P.follows .mixedOrders) ops t) a w.drew) : (Code.region id ops true).wp P Q a w :=
  fun b k cs => let ⟨e, a', w', q, r⟩ := h _ b k cs; ⟨e, a', w', q, .of_steps (.one step_region_draw) r⟩
theorem semOps_comm {i : Nat} {rest : List Nat} {a' : Act} {w' : World} (hs : CommTo P ops i a w a' w') (h : SemOps P ops Q rest a' w') : SemOps P ops Q (i :: rest) a w :=
  fun b k cs => let ⟨e, a2, w2, q, r⟩ := h b k cs; ⟨e, a2, w2, q, .of_steps (.one (hs rest b k cs)) r⟩

/-- One operation of the ordinary walk, whatever comes behind it. -/
theorem semOps_op {i : Nat} {rest : List Nat} (h : wpOp P ops Q i (SemOps P ops Q rest) a w) : SemOps P ops Q (i :: rest) a w := by
  intro b k cs
  unfold wpOp at h
  cases ho : ops[i]? with
  | none =>
    simp only [ho] at h
    obtain ⟨e, a', w', q, r⟩ := h b k cs
    have hs := step_op_skip (P := P) (b := b) (a := a) (k := k) (cs := cs) (w := w) (ops := ops) (i := i) (rest := rest) (by simp [ho])
    simp only [ho, Option.bind_none, Act.put] at hs
    exact ⟨e, a', w', q, .of_steps (.one hs) r⟩
  | some o =>
    simp only [ho] at h
    by_cases hw : Region.wanted o (yielded ops a.tmps) = true
    · simp only [hw, if_true] at h
      rcases h with h | ⟨hasks, a0, w0, hq⟩
      case inr =>
        by_cases hk : b.kind = .early
        · exact ⟨.outgrown, a0, w0, hq, .inl hk⟩
        · exact ⟨.outgrown, a0, w0, hq, .inr (asks_outgrown ho hw hk hasks)⟩
      have hg := stepG_op (P := P) (b := b) (k := k) (cs := cs) (w := w) (rest := rest) ho hw
      have hfin : ∀ v, (b.at a (.inRegion ops (i :: rest) :: k)).finish v = b.at (a.put o.dst v) (.inRegion ops rest :: k) := by
        intro v; rw [Frame.finish_at, ho]; rfl
      unfold Oper.wp at h
      cases hr : (execOp a.eval o).run P w with
      | halt x w1 =>
        rw [hr] at h
        cases x <;> simp only [Oper.upon] at h
        all_goals first
          | exact h.elim
          | (refine ⟨_, a, w1, h, .inRegion ops (i :: rest) :: k, .one (step_lone_go ?_)⟩
             rw [hg, ← Frame.raise_at]; simp [stepG.apply, hr])
      | ok n w1 =>
        rw [hr] at h
        cases n with
        | value v =>
          obtain ⟨e, a', w2, q, r⟩ := (h : SemOps P ops Q rest (a.put o.dst v) w1) b k cs
          refine ⟨e, a', w2, q, .of_steps (.one (step_lone_go ?_)) r⟩
          rw [hg, ← hfin]; simp [stepG.apply, hr]
        | skip =>
          obtain ⟨e, a', w2, q, r⟩ := (h : SemOps P ops Q rest (a.put o.dst undef) w1) b k cs
          refine ⟨e, a', w2, q, .of_steps (.one (step_lone_go ?_)) r⟩
          rw [hg, ← hfin]; simp [stepG.apply, hr]
        | enter f args =>
          have h2 : Calls P f args w1 fun
              | .returned v, w'' => SemOps P ops Q rest (a.put o.dst v) w''
              | .panicked chain, w'' => Q (.panic chain) a w''
              | .outgrown, _ => LetsOut Q := h
          obtain ⟨e, w2, fr, hR, hsteps, _, hleave⟩ := h2 (b.at a (.inRegion ops (i :: rest) :: k) :: cs)
          have henter : step P (lone (b.at a (.inRegion ops (i :: rest) :: k)) cs w) = .next (lone (Frame.enter P f args .normal) (b.at a (.inRegion ops (i :: rest) :: k) :: cs) w1) :=
            step_lone_go (by rw [hg]; simp [stepG.apply, hr, Frame.at])
          cases e with
          | returned v =>
            obtain ⟨e, a', w3, q, r⟩ := (hR : SemOps P ops Q rest (a.put o.dst v) w2) b k cs
            refine ⟨e, a', w3, q, .of_steps (.head henter (hsteps.trans (.one ?_))) r⟩
            rw [← hfin]; exact step_leave_returned hleave
          | panicked chain =>
            refine ⟨.panic chain, a, w2, hR, .inRegion ops (i :: rest) :: k, .head henter (hsteps.trans (.one ?_))⟩
            rw [← Frame.raise_at]; exact step_leave_panicked hleave
          | outgrown =>
            obtain ⟨a0, w0, hq⟩ := hR
            exact ⟨.outgrown, a0, w0, hq, .inr (Outgrown.of_steps (.one henter) hsteps)⟩
        | row row args =>
          obtain ⟨v, w2, hR, hsteps⟩ := (h : Rows P row args w1 fun v w'' => SemOps P ops Q rest (a.put o.dst v) w'') (b.at a (.inRegion ops (i :: rest) :: k)) cs
          have henter : step P (lone (b.at a (.inRegion ops (i :: rest) :: k)) cs w) = .next (lone (Frame.ofRow P row args .normal) (b.at a (.inRegion ops (i :: rest) :: k) :: cs) w1) :=
            step_lone_go (by rw [hg]; simp [stepG.apply, hr, Frame.at])
          obtain ⟨e, a', w3, q, r⟩ := hR b k cs
          refine ⟨e, a', w3, q, .of_steps (.head henter ?_) r⟩
          rw [← hfin]; exact hsteps
        | defer d =>
          obtain ⟨e, a', w2, q, r⟩ := (h : SemOps P ops Q rest ({ a with defers := d :: a.defers }.put o.dst undef) w1) b k cs
          refine ⟨e, a', w2, q, .of_steps (.one (step_lone_go ?_)) r⟩
          have : ({ b.at a (.inRegion ops (i :: rest) :: k) with defers := d :: a.defers } : Frame).finish undef =
              b.at ({ a with defers := d :: a.defers }.put o.dst undef) (.inRegion ops rest :: k) := by
            have := Frame.finish_at b { a with defers := d :: a.defers } ops i rest k undef
            rw [ho] at this; exact this
          rw [hg]; simp only [stepG.apply, Sem.runT_eq, hr, GStep.bare_after]
          exact congrArg (fun fr => GStep.go { frame := fr, callers := cs, status := .running, dying := none } w1) this
        | _ => exact (h : False).elim
    · simp only [hw, if_false, Bool.false_eq_true] at h
      obtain ⟨e, a', w', q, r⟩ := h b k cs
      have hs := step_op_skip (P := P) (b := b) (a := a) (k := k) (cs := cs) (w := w) (ops := ops) (i := i) (rest := rest) (by simp [ho]; simpa using hw)
      simp only [ho, Option.bind_some] at hs
      exact ⟨e, a', w', q, .of_steps (.one hs) r⟩

/-- The post of a list's first part. -/
def Then (K : Act → World → Prop) (Q : Exit → Act → World → Prop) : Exit → Act → World → Prop
  | .normal, a, w => K a w
  | e, a, w => Q e a w
theorem semOps_pre {rest : List Nat} : ∀ (pre : List Nat) (a : Act) (w : World), wpOps P ops (Then (SemOps P ops Q rest) Q) pre a w → SemOps P ops Q (pre ++ rest) a w
  | [], a, w, h => h
  | i :: pre, a, w, h => by
    rw [wpOps_cons] at h
    refine semOps_op ?_
    have h' := wpOp_mono (fun a w => semOps_pre pre a w) h
    unfold wpOp at h' ⊢
    split at h'
    · exact h'
    · split
      · rename_i hw
        rw [if_pos hw] at h'
        rcases h' with h' | ⟨h1, x, y, h2⟩
        · exact .inl (wp_all (fun _ _ h => h) (fun _ _ _ h => h) (fun _ _ h => h) h')
        · exact .inr ⟨h1, x, y, h2⟩
      · rename_i hw
        rw [if_neg hw] at h'
        exact h'

theorem wpList_range (pre post : List Oper) (Q' : Exit → Act → World → Prop) : wpOps P (pre ++ post).toArray Q' (List.range' 0 pre.length) = wpList P (pre ++ post).toArray Q' pre := by
  have : ∀ (l r : List Oper) (n : Nat) (ops : Array Oper), (∀ j, j < l.length → ops[n + j]? = l[j]?) → wpOps P ops Q' (List.range' n l.length) = wpList P ops Q' l := by
    intro l
    induction l with
    | nil => intro _ _ _ _; funext a w; simp [wpOps, wpList]
    | cons o l ih =>
      intro r n ops h
      have h0 : ops[n]? = some o := by simpa using h 0 (by simp)
      have ih' := ih r (n + 1) ops (fun j hj => by have := h (j + 1) (by simpa using hj); simpa [Nat.add_assoc, Nat.add_comm 1 j] using this)
      funext a w
      simp only [List.length_cons, List.range'_succ, wpOps, h0, wpList, ih']
  exact this pre post 0 _ (fun j hj => by simp [List.getElem?_append_left hj])
theorem wpList_range2 (pre post : List Oper) (Q' : Exit → Act → World → Prop) : wpOps P (pre ++ post).toArray Q' (List.range' pre.length post.length) = wpList P (pre ++ post).toArray Q' post :=
  wpOps_eq_wpList post pre.length (fun j => by simp [List.getElem?_append_right])

/-- A region in which the operation behind the first ones is a communication. -/
theorem wp_region_comm {id : Nat} (pre : List Oper) {o : Oper} {post : List Oper}
    (h : wpList P (pre ++ o :: post).toArray (Then (fun a w => ∃ a' w', CommTo P (pre ++ o :: post).toArray pre.length a w a' w' ∧ wpList P (pre ++ o :: post).toArray Q post a' w') Q) pre a w) :
    (Code.region id (pre ++ o :: post).toArray false).wp P Q a w := by
  refine wp_region_sem ?_
  have e : List.range (pre ++ o :: post).toArray.size = List.range' 0 pre.length ++ (pre.length :: List.range' (pre.length + 1) post.length) := by
    rw [List.range_eq_range']
    have : (pre ++ o :: post).toArray.size = pre.length + (post.length + 1) := by simp
    rw [this, ← List.range'_append_1, List.range'_succ]
    simp
  rw [e]
  refine semOps_pre _ _ _ ?_
  rw [wpList_range]
  have mono : ∀ (l : List Oper) (a : Act) (w : World), wpList P (pre ++ o :: post).toArray (Then (fun a w => ∃ a' w', CommTo P (pre ++ o :: post).toArray pre.length a w a' w' ∧ wpList P (pre ++ o :: post).toArray Q post a' w') Q) l a w →
      wpList P (pre ++ o :: post).toArray (Then (SemOps P (pre ++ o :: post).toArray Q (pre.length :: List.range' (pre.length + 1) post.length)) Q) l a w := by
    intro l
    induction l with
    | nil =>
      rintro a w ⟨a', w', hc, hl⟩
      refine semOps_comm hc (semOps_of ?_)
      have := wpList_range2 (P := P) (pre ++ [o]) post Q
      simp only [List.append_assoc, List.singleton_append, List.length_append, List.length_singleton] at this
      rw [this]
      exact hl
    | cons x l ih =>
      intro a w h
      simp only [wpList] at h ⊢
      split
      · rename_i hw
        rw [if_pos hw] at h
        rcases h with h | ⟨h1, x, y, h2⟩
        · exact .inl (wp_all (fun a w => ih a w) (fun _ _ _ h => h) (fun _ _ h => h) h)
        · exact .inr ⟨h1, x, y, h2⟩
      · rename_i hw
        rw [if_neg hw] at h
        exact ih _ _ h
  exact mono _ _ _ h

/-- .. by the operation's number. -/
theorem wp_region_commN {id : Nat} (n : Nat) {l : List Oper} {o : Oper} (ho : l[n]? = some o)
    (h : wpList P l.toArray (Then (fun a w => ∃ a' w', CommTo P l.toArray n a w a' w' ∧ wpList P l.toArray Q (l.drop (n + 1)) a' w') Q) (l.take n) a w) :
    (Code.region id l.toArray false).wp P Q a w := by
  have hn : n < l.length := (List.getElem?_eq_some_iff.1 ho).1
  have e : l.take n ++ o :: l.drop (n + 1) = l := by
    have h2 := (List.getElem?_eq_some_iff.1 ho).2
    rw [← h2, List.getElem_cons_drop, List.take_append_drop]
  have hl : (l.take n).length = n := by rw [List.length_take]; omega
  have := wp_region_comm (P := P) (Q := Q) (a := a) (w := w) (id := id) (l.take n) (o := o) (post := l.drop (n + 1))
  rw [e, hl] at this
  exact this h

/-! ### A region that draws its order, in which a communication comes last -/
/-- In every order m comes last. -/
def lastB (ops : Array Oper) (m : Nat) : Nat → Array Bool → Bool
  | 0, _ => false
  | fuel + 1, listed => !(Region.ready .any ops listed).isEmpty && (Region.ready .any ops listed).all fun i => if i == m then (Region.ready .any ops (listed.setIfInBounds m true)).isEmpty else lastB ops m fuel (listed.setIfInBounds i true)

theorem ready_set (m : Nat) (x o : Oper) (ho : ops[m]? = some o) (hx : x.after = o.after) (listed : Array Bool) : Region.ready .any (ops.setIfInBounds m x) listed = Region.ready .any ops listed := by
  unfold Region.ready
  rw [Array.size_setIfInBounds]
  congr 1
  funext i
  congr 1
  by_cases hi : i = m
  · subst hi
    have hlt : i < ops.size := (Array.getElem?_eq_some_iff.1 ho).1
    rw [Array.getElem?_setIfInBounds_self_of_lt hlt, ho]
    simp [hx]
  · rw [Array.getElem?_setIfInBounds_ne (Ne.symm hi)]
theorem yielded_set (m : Nat) (x o : Oper) (ho : ops[m]? = some o) (hx : x.dst = o.dst) (t : Array Value) : yielded (ops.setIfInBounds m x) t = yielded ops t := by
  funext i
  unfold yielded
  by_cases hi : i = m
  · subst hi
    have hlt : i < ops.size := (Array.getElem?_eq_some_iff.1 ho).1
    rw [Array.getElem?_setIfInBounds_self_of_lt hlt, ho]
    simp [hx]
  · rw [Array.getElem?_setIfInBounds_ne (Ne.symm hi)]

/-- At the end: the communication. -/
def EndComm (P : Program) (ops : Array Oper) (m : Nat) (Q : Exit → Act → World → Prop) : Exit → Act → World → Prop
  | .normal, a, w => ∃ a' w', CommTo P ops m a w a' w' ∧ Q .normal a' w'
  | e, a, w => Q e a w

/-- An operation that does nothing, in the place of another one. -/
def idle (o : Oper) : Oper := { o with op := .move (.const (.bool true)), dst := none, guard := none }

theorem sem_last {m : Nat} {o : Oper} (ho : ops[m]? = some o) (hd : o.dst = none) (hg : o.guard = none) : ∀ (fuel t : Nat) (listed : Array Bool) (a : Act) (w : World), lastB ops m fuel listed = true →
    wpAny P .any (ops.setIfInBounds m (idle o)) (EndComm P ops m Q) fuel listed a w → SemOps P ops Q (Region.linearise.go .any ops fuel t listed []) a w
  | 0, t, listed, a, w, hB, h => by simp [lastB] at hB
  | fuel + 1, t, listed, a, w, hB, h => by
    have hrs := ready_set m (idle o) o ho rfl
    simp only [lastB, Bool.and_eq_true] at hB
    obtain ⟨hne, hall⟩ := hB
    obtain ⟨_, h1⟩ := h
    rw [hrs] at h1
    simp only [Region.linearise.go]
    change SemOps P ops Q (match (Region.ready .any ops listed)[t % (Region.ready .any ops listed).length]? with
      | some i => Region.linearise.go .any ops fuel (t / (Region.ready .any ops listed).length) (listed.setIfInBounds i true) [i]
      | none => [].reverse) a w
    have hpos : 0 < (Region.ready .any ops listed).length := by
      cases hh : Region.ready .any ops listed with
      | nil => rw [hh] at hne; simp at hne
      | cons x xs => simp
    have hlt : t % (Region.ready .any ops listed).length < (Region.ready .any ops listed).length := Nat.mod_lt _ hpos
    obtain ⟨i, hi⟩ : ∃ i, (Region.ready .any ops listed)[t % (Region.ready .any ops listed).length]? = some i := ⟨_, List.getElem?_eq_getElem hlt⟩
    have hmem := List.mem_of_getElem? hi
    have hi1 := List.all_eq_true.1 hall i hmem
    have hop := h1 i hmem
    simp only [hi]
    rw [linearise_go_acc, List.reverse_singleton, List.singleton_append]
    by_cases him : i = m
    · subst him
      simp only [beq_self_eq_true, if_true, List.isEmpty_iff] at hi1
      have hlt2 : i < ops.size := (Array.getElem?_eq_some_iff.1 ho).1
      unfold wpOp at hop
      rw [Array.getElem?_setIfInBounds_self_of_lt hlt2] at hop
      simp only [Region.wanted, idle, if_true, Oper.wp, execOp] at hop
      have hend : ∃ a' w', CommTo P ops i a w a' w' ∧ Q .normal a' w' := by
        rcases hop with hop | ⟨⟨h2, _⟩, _⟩
        · have hop' : wpAny P .any (ops.setIfInBounds i (idle o)) (EndComm P ops i Q) fuel (listed.setIfInBounds i true) a w := hop
          cases fuel with
          | zero => exact hop'.2
          | succ n => exact hop'.1 (by rw [hrs]; exact hi1)
        · simp [execOp, pure] at h2
      obtain ⟨a', w', hc, hq⟩ := hend
      have hnil : Region.linearise.go .any ops fuel (t / (Region.ready .any ops listed).length) (listed.setIfInBounds i true) [] = [] := by
        cases fuel with
        | zero => rfl
        | succ n =>
          simp only [Region.linearise.go]
          change (match (Region.ready .any ops (listed.setIfInBounds i true))[_ % (Region.ready .any ops (listed.setIfInBounds i true)).length]? with
            | some j => _
            | none => [].reverse) = []
          rw [hi1]
          simp
      rw [hnil]
      exact semOps_comm hc (semOps_of hq)
    · simp only [beq_iff_eq, him, if_false] at hi1
      refine semOps_op ?_
      have hop2 := wpOp_mono (fun a w => sem_last ho hd hg fuel (t / (Region.ready .any ops listed).length) (listed.setIfInBounds i true) a w hi1) hop
      unfold wpOp at hop2 ⊢
      rw [Array.getElem?_setIfInBounds_ne (Ne.symm him), yielded_set m (idle o) o ho (by rw [hd]; rfl)] at hop2
      split at hop2
      · exact hop2
      · split
        · rename_i hw
          rw [if_pos hw] at hop2
          rcases hop2 with h' | ⟨h1, x, y, h2⟩
          · exact .inl (wp_all (fun _ _ h => h) (fun _ _ _ h => h) (fun _ _ h => h) h')
          · exact .inr ⟨h1, x, y, h2⟩
        · rename_i hw
          rw [if_neg hw] at hop2
          exact hop2

theorem wp_region_planC (G : Nat → Prop) {id : Nat} (m : Nat) {o : Oper} (ho : ops[m]? = some o) (hd : o.dst = none) (hg : o.guard = none) (plan : List (Nat × Bool)) (hm : P.follows .mixedOrders = true) (hL : lastB ops m ops.size (Array.replicate ops.size false) = true) {ops' : Array Oper} (he : ops.setIfInBounds m (idle o) = ops')
    (hB : (Region.noSelect ops' && (decide (plan.length ≤ ops.size) && planB ops' plan (Array.replicate ops.size false))) = true)
    (h : wpPlan P ops' (OnlyN (EndComm P ops m Q)) G plan a w.drew) : (Code.region id ops true).wp P Q a w := by
  subst he
  simp only [Bool.and_eq_true, decide_eq_true_eq] at hB
  obtain ⟨h1, h2, h3⟩ := hB
  refine wp_region_draw_sem fun t => ?_
  simp only [Region.schedule, hm, Bool.true_or, if_true]
  have hH := plan_sound (P := P) (Q := EndComm P ops m Q) (G := G) h1 plan ops.size _ a w.drew h2 h3 h
  have hA := wpAny_of_held _ _ _ _ hH
  refine sem_last ho hd hg ops.size t _ a _ hL ?_
  have mono : ∀ (fuel : Nat) (listed : Array Bool) (a : Act) (w : World), wpAny P .any (ops.setIfInBounds m (idle o)) (OnlyN (EndComm P ops m Q)) fuel listed a w → wpAny P .any (ops.setIfInBounds m (idle o)) (EndComm P ops m Q) fuel listed a w := by
    intro fuel
    induction fuel with
    | zero => exact fun _ _ _ h => h
    | succ n ih =>
      intro listed a w h
      refine ⟨h.1, fun i hi => ?_⟩
      have := wpOp_mono (fun a w => ih _ a w) (h.2 i hi)
      unfold wpOp at this ⊢
      split at this
      · exact this
      · split
        · rename_i hw
          rw [if_pos hw] at this
          rcases this with h' | ⟨h1, x, y, h2⟩
          · exact .inl (wp_all (fun _ _ h => h) (fun _ _ _ h => (h : False).elim) (fun _ _ h => (h : False).elim) h')
          · exact (h2 : False).elim
        · rename_i hw
          rw [if_neg hw] at this
          exact this
  exact mono _ _ _ _ hA
end

/-! ### The communications -/
section
variable {P : Program} {ops : Array Oper} {i : Nat} {o : Oper} {a : Act} {w : World} {c cap s r : Nat} {buf : Array Value} {z z' v : Value} {tm closed : Bool}
theorem comm_any {rest : List Nat} {b : Frame} {k : List Item} {cs : List Frame} {cases : Array CommCase} {blocking : Bool} {shape : CommShape} (ho : ops[i]? = some o) (hg : o.guard = none) (hr : (execOp a.eval o).run P w = .ok (.comm cases blocking shape) w) :
    ∃ es, stepG P true (Conc.G (b.at a (.inRegion ops (i :: rest) :: k)) cs) w = .comm (Conc.G (b.at a (.inRegion ops (i :: rest) :: k)) cs) cases blocking shape w es := by
  have hw : Region.wanted o (yielded ops a.tmps) = true := by simp [Region.wanted, hg]
  rw [stepG_oper ho hw]
  simp only [stepG.apply, Sem.runT_eq, hr, GStep.after, Conc.G]
  exact ⟨_, rfl⟩
theorem fin_at {rest : List Nat} {b : Frame} {k : List Item} (ho : ops[i]? = some o) (v : Value) : (b.at a (.inRegion ops (i :: rest) :: k)).finish v = b.at (a.put o.dst v) (.inRegion ops rest :: k) := by rw [Frame.finish_at, ho]; rfl

theorem comm_send {x y : Operand} (ho : ops[i]? = some o) (hg : o.guard = none) (hop : o.op = .send x y) (hx : a.eval x = .chan (some c)) (hy : a.eval y = v) (hc : w.heap[c]? = some (.chan cap buf false s r tm)) (hroom : buf.size < cap) :
    CommTo P ops i a w (a.put o.dst undef) (w.setChan c cap (buf.push v) false (s + 1) r tm) := fun rest b k cs => by
  obtain ⟨es, h⟩ := comm_any (P := P) (w := w) (rest := rest) (b := b) (k := k) (cs := cs) (a := a) ho hg (cases := #[scase c v (.tuple #[])]) (blocking := true) (shape := .send) (by simp [execOp, hop, hx, hy, scase])
  have := step_lone_send_room h hc hroom
  rw [fin_at ho] at this
  exact this
theorem comm_recv {x : Operand} {t : TypeId} {d : Tmp} (ho : ops[i]? = some o) (hd : o.dst = some d) (hg : o.guard = none) (hop : o.op = .recv t x false) (hx : a.eval x = .chan (some c)) (hz : ∃ elem, (execOp a.eval o).run P w = .ok (.comm #[rcase c elem] true (.recv false)) w) (hc : w.heap[c]? = some (.chan cap buf closed s r tm)) (hsome : 0 < buf.size) :
    CommTo P ops i a w (a.put (some d) (buf.getD 0 undef)) (w.setChan c cap (buf.extract 1 buf.size) closed s (r + 1) tm) := fun rest b k cs => by
  rw [← hd]
  obtain ⟨elem, hr⟩ := hz
  obtain ⟨es, h⟩ := comm_any (P := P) (w := w) (rest := rest) (b := b) (k := k) (cs := cs) (a := a) ho hg hr
  have := step_lone_recv_buf false h hc hsome
  rw [fin_at ho] at this
  exact this
theorem comm_sel_recv (ho : ops[i]? = some o) (hg : o.guard = none) (hr : (execOp a.eval o).run P w = .ok (.comm #[rcase c z] false .select) w) (hc : w.heap[c]? = some (.chan cap buf closed s r tm)) (hsome : 0 < buf.size) :
    CommTo P ops i a w (a.put o.dst (.tuple #[goInt 0, .bool true, buf.getD 0 undef])) (w.setChan c cap (buf.extract 1 buf.size) closed s (r + 1) tm) := fun rest b k cs => by
  obtain ⟨es, h⟩ := comm_any (P := P) (w := w) (rest := rest) (b := b) (k := k) (cs := cs) (a := a) ho hg hr
  have := step_lone_select_recv_buf h hc hsome
  rw [fin_at ho] at this
  exact this
theorem comm_sel_none (ho : ops[i]? = some o) (hg : o.guard = none) (hr : (execOp a.eval o).run P w = .ok (.comm #[rcase c z] false .select) w) (hc : w.heap[c]? = some (.chan cap #[] false s r tm)) :
    CommTo P ops i a w (a.put o.dst (.tuple #[goInt (-1), .bool false, z])) w := fun rest b k cs => by
  obtain ⟨es, h⟩ := comm_any (P := P) (w := w) (rest := rest) (b := b) (k := k) (cs := cs) (a := a) ho hg hr
  have := step_lone_select_default h hc
  rw [fin_at ho] at this
  exact this
theorem comm_sel_send (ho : ops[i]? = some o) (hg : o.guard = none) (hr : (execOp a.eval o).run P w = .ok (.comm #[scase c v z] false .select) w) (hc : w.heap[c]? = some (.chan cap buf false s r tm)) (hroom : buf.size < cap) :
    CommTo P ops i a w (a.put o.dst (.tuple #[goInt 0, .bool false])) (w.setChan c cap (buf.push v) false (s + 1) r tm) := fun rest b k cs => by
  obtain ⟨es, h⟩ := comm_any (P := P) (w := w) (rest := rest) (b := b) (k := k) (cs := cs) (a := a) ho hg hr
  have := step_lone_select_send_room h hc hroom
  rw [fin_at ho] at this
  exact this
theorem comm_sel_full (ho : ops[i]? = some o) (hg : o.guard = none) (hr : (execOp a.eval o).run P w = .ok (.comm #[scase c v z] false .select) w) (hc : w.heap[c]? = some (.chan cap buf false s r tm)) (hfull : cap ≤ buf.size) :
    CommTo P ops i a w (a.put o.dst (.tuple #[goInt (-1), .bool false])) w := fun rest b k cs => by
  obtain ⟨es, h⟩ := comm_any (P := P) (w := w) (rest := rest) (b := b) (k := k) (cs := cs) (a := a) ho hg hr
  have := step_lone_select_send_full h hc hfull
  rw [fin_at ho] at this
  exact this
end
end Go.Proofs.Ytojbehblgmpbgaa
