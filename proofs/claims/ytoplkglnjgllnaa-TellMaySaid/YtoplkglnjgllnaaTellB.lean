/-
  Layer 18's helper Own.
-/
import Derived.Test.YtoplkglnjgllnaaTellA
import Derived.Test.YtoplkglnjgllnaaRowK
import Derived.Test.YtoplkglnjgllnaaLoadBlk
namespace Go.Proofs.Ytoplkglnjgllnaa
open Go.RowKit
set_option linter.unusedVariables false
set_option linter.unusedSimpArgs false

/-- A struct stored into the middle of a block that is known whole. -/
theorem run_storeMid8 {P : Program} {w : World} {g o : Nat} {t e : TypeId} {cs xs : List Value} (hs : (P.info? e).map (·.size) = some xs.length) (h : Blk w g t cs) (hl : o + xs.length ≤ cs.length) (h1 : ∀ v ∈ xs, v.oneCell' = true) :
    (Instr.storeAt e (.pointer (some ⟨g, o, none⟩)) (.agg xs.toArray)).run P w = .ok () (w.setRow g (cs.take o ++ xs ++ cs.drop (o + xs.length)).toArray) := by
  obtain ⟨i, hi, hsz⟩ := Option.map_eq_some_iff.1 hs
  have hst := run_storeCells_atM P g o t (0, 0) xs 0 cs.toArray w h (.inl (Nat.le_refl _)) (by simpa using hl) h1
  simp only [Nat.add_zero] at hst
  simp [Instr.storeAt, Instr.sureAddr, storeVar, sizeOf, typeInfo, hi, hsz, Value.cells, hst]
theorem wpList_storeMid8 {P : Program} {w : World} {ops : Array Oper} {rest : List Oper} {o : Oper} {a : Act} {Q : Exit → Act → World → Prop} (hgd : o.guard = none) (x y : Operand) {e : TypeId} (ho : o.op = .store e x y) (hd : o.dst = none)
    {g off : Nat} {t : TypeId} {cs : List Value} (xs cs' : List Value) (hx : a.eval x = .pointer (some ⟨g, off, none⟩)) (hy : a.eval y = .agg xs.toArray) (hs : (P.info? e).map (·.size) = some xs.length) (h : Blk w g t cs) (hl : off + xs.length ≤ cs.length) (h1 : ∀ v ∈ xs, v.oneCell' = true)
    (hcs : cs.take off ++ xs ++ cs.drop (off + xs.length) = cs') (k : wpList P ops Q rest a (w.setRow g cs'.toArray)) : wpList P ops Q (o :: rest) a w := by
  subst hcs
  refine wpList_plain hgd fun K hK => ?_
  unfold Oper.wp execOp
  simp only [ho, hx, hy, run_storeMid8 hs h hl h1, Sem.run_bind, Result.andThen_ok, Sem.run_pure]
  refine hK _ _ ?_
  rw [hd]
  exact k

theorem Keeps.more8 {G G' : Nat → Prop} {w w' w'' : World} (h : Keeps G w w') (h' : Keeps G' w' w'') (hG : ∀ k, k < w.heap.size → G' k → G k) : Keeps G w w'' :=
  ⟨h'.os.trans h.os, h'.tape.trans h.tape, h'.output.trans h.output, Nat.le_trans h.size h'.size, fun k hk hn => (h'.block k (Nat.lt_of_lt_of_le hk h.size) (fun hg => hn (hG k hk hg))).trans (h.block k hk hn)⟩
structure QidV where
  dir : Bool
  ver : Int
  path : Int
/-- A reply. -/
structure TellV where
  kind : Int
  tag : Int
  code : Int
  msize : Int
  iounit : Int
  count : Int
  name : List UInt8
  qid : QidV
  qids : List QidV
  data : List UInt8
  sqid : QidV
  smode : Int
  ssize : Int
  sname : List UInt8
def qidC (q : QidV) : List Value := [.bool q.dir, .int .i64 q.ver, .int .i64 q.path]
def qidZ : QidV := ⟨false, 0, 0⟩
/-- What is laid alone. -/
def ownT (t : TellV) : TellV :=
  { kind := t.kind, tag := t.tag, code := if hasM t.kind 101 then t.code else 0, msize := if hasM t.kind 122 then t.msize else 0, iounit := if hasM t.kind 105 then t.iounit else 0, count := if hasM t.kind 99 then t.count else 0, name := if hasM t.kind 122 then t.name else [], qid := if hasM t.kind 113 then t.qid else qidZ, qids := if hasM t.kind 108 then t.qids else [], data := if hasM t.kind 100 then t.data else [], sqid := if hasM t.kind 115 then t.sqid else qidZ, smode := if hasM t.kind 115 then t.smode else 0, ssize := if hasM t.kind 115 then t.ssize else 0, sname := if hasM t.kind 115 then t.sname else [] }
/-- The reply's cells. -/
def tellC (t : TellV) (Aq : Option Addr) (nq cq : Nat) (Ad : Option Addr) (nd cd : Nat) : List Value :=
  [.int .i64 t.kind, .int .i64 t.tag, .int .i64 t.code, .int .i64 t.msize, .int .i64 t.iounit, .int .i64 t.count, .string (st t.name), .bool t.qid.dir, .int .i64 t.qid.ver, .int .i64 t.qid.path, .slice Aq nq cq, .slice Ad nd cd, .bool t.sqid.dir, .int .i64 t.sqid.ver, .int .i64 t.sqid.path, .int .i64 t.smode, .int .i64 t.ssize, .string (st t.sname)]
theorem tellT_agg (w : World) : (isAgg 29).run Try.prog w = .ok true w := by kernel_rfl
/-- What Own leaves: Qids and Data are those that came, or none. -/
def OwnTPost (t : TellV) (Aq : Option Addr) (nq cq : Nat) (Ad : Option Addr) (nd cd : Nat) (w : World) (e : Ending) (w' : World) : Prop :=
  ∃ x Aq' nq' cq' Ad' nd' cd', Hid (x = ownT t) ∧ e = .returned (.agg (tellC x Aq' nq' cq' Ad' nd' cd').toArray) ∧ Hid ((hasM t.kind 108 = true ∧ Aq' = Aq ∧ nq' = nq ∧ cq' = cq) ∨ (hasM t.kind 108 = false ∧ Aq' = none ∧ nq' = 0 ∧ cq' = 0)) ∧ Hid ((hasM t.kind 100 = true ∧ Ad' = Ad ∧ nd' = nd ∧ cd' = cd) ∨ (hasM t.kind 100 = false ∧ Ad' = none ∧ nd' = 0 ∧ cd' = 0)) ∧ Below w.heap.size w w'

end Go.Proofs.Ytoplkglnjgllnaa
