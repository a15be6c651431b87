/- An abstract machine for the program's code, and what it says of the machine's own runs. -/
import Derived.Test.YtalnfojlmkebnaaAII
import Derived.Test.YtalnfojlmkebnaaProg
import Derived.KernelRfl
namespace Go.Proofs.Ytalnfojlmkebnaa.AI
open Go Go.RowKit
set_option linter.unusedVariables false
set_option linter.unusedSimpArgs false
set_option linter.all false
/-! This program, told. -/
noncomputable def T : Tab := ⟨fun f => Try.prog.funcs[f]?, fun _ => []⟩
theorem hm : Try.prog.follows .mixedOrders = true := by kernel_rfl
theorem names : (Try.prog.funcs.all fun fn => !(fn.name == "runtime.NumGoroutine")) = true := by kernel_rfl
theorem hT : TabOk Try.prog T := by
  intro f fn h
  refine ⟨h, ?_⟩
  have := (Array.all_eq_true_iff_forall_mem.1 names) fn (Array.mem_of_getElem? h)
  simpa using this
def look : List (Nat × (List AV → List (Bool × Out))) → Spec
  | [], _ => none
  | p :: r, f => if f = p.1 then some p.2 else look r f
theorem look_nil : SpecOk Try.prog (look []) := by intro f F h; cases h
theorem look_cons {g : Nat} {G : List AV → List (Bool × Out)} {r : List (Nat × (List AV → List (Bool × Out)))} (h : ∀ args o, alts (G args) some = some o → Snd Try.prog g args o) (hr : SpecOk Try.prog (look r)) : SpecOk Try.prog (look ((g, G) :: r)) := by
  intro f F hF
  simp only [look] at hF
  split at hF
  · rename_i e; cases hF; subst e; exact h
  · exact hr f F hF
theorem alts_one {b : Bool} {x o : Out} (h : alts [(b, x)] some = some o) : b = true ∧ o = x := by
  simp only [alts] at h
  obtain ⟨h1, h2⟩ := cond_none h
  exact ⟨h1, (Option.some.inj h2).symm⟩
theorem alts_nil {o : Out} (h : alts ([] : List (Bool × Out)) some = some o) : False := by cases h
abbrev tt : Out := (.v (.c (.s (.bool true))), [])
abbrev int (n : Int) : AV := .c (.s (.int .i64 n))
abbrev u32 (n : Int) : AV := .c (.s (.int .u32 n))
abbrev bln (b : Bool) : AV := .c (.s (.bool b))
theorem LGood_none {ρ : Type} {H : Heap} {n : Nat} {c : Code} : LGood (ρ := ρ) Try.prog H n (fun _ => none) c := by
  intro b _ F h
  cases hk : keyOf b <;> rw [hk] at h <;> cases h
/-- A function without loops of its own that are told apart. -/
noncomputable abbrev run (S : Spec) (f : Nat) (args : List AV) : Option Out := fnK Try.prog true T S (fun _ => none) 12 12 f args some
theorem run_ok {S : Spec} (hS : SpecOk Try.prog S) {f : Nat} {args : List AV} {o : Out} (h : run S f args = some o) : Snd Try.prog f args o :=
  fnK_ok hm hT hS (fun _ _ _ _ => LGood_none) h
/-! What comes in, by its type. -/
theorem sh_int {k : Nat} {t : TypeId} {i : IntKind} {pcs : List PC} (hu : Try.prog.underlying t = some (.int i)) (h : Sh Try.prog (k + 1) t pcs) : ∃ n, pcs = [.s (.int i n)] ∧ (Lit.int i n).wf = true := by
  unfold Sh at h; rw [hu] at h; exact h
theorem sh_bool {k : Nat} {t : TypeId} {pcs : List PC} (hu : Try.prog.underlying t = some .bool) (h : Sh Try.prog (k + 1) t pcs) : ∃ b, pcs = [.s (.bool b)] := by
  unfold Sh at h; rw [hu] at h; exact h
theorem sh_str {k : Nat} {t : TypeId} {pcs : List PC} (hu : Try.prog.underlying t = some .string) (h : Sh Try.prog (k + 1) t pcs) : ∃ s, pcs = [.s (.string s)] ∧ s.size ≤ maxLen := by
  unfold Sh at h; rw [hu] at h; exact h
theorem sh_slice {k : Nat} {t e : TypeId} {pcs : List PC} (hu : Try.prog.underlying t = some (.slice e)) (h : Sh Try.prog (k + 1) t pcs) : ∃ l, pcs = [.row l] ∧ l.length ≤ maxLen ∧ ∀ c ∈ l, c.length = Try.prog.cellsOf e ∧ Sh Try.prog k e c := by
  unfold Sh at h; rw [hu] at h; exact h
theorem sh_struct {k : Nat} {t : TypeId} {fs : Array Field} {pcs : List PC} (hu : Try.prog.underlying t = some (.struct fs)) (h : Sh Try.prog (k + 1) t pcs) : pcs.length = Try.prog.cellsOf t ∧ ∀ f ∈ fs.toList, Sh Try.prog k f.type ((pcs.drop f.offset).take (Try.prog.cellsOf f.type)) := by
  unfold Sh at h; rw [hu] at h; exact h
theorem sh_array {k n : Nat} {t e : TypeId} {pcs : List PC} (hu : Try.prog.underlying t = some (.array n e)) (h : Sh Try.prog (k + 1) t pcs) : pcs.length = Try.prog.cellsOf t ∧ ∀ i, i < n → Sh Try.prog k e ((pcs.drop (i * Try.prog.cellsOf e)).take (Try.prog.cellsOf e)) := by
  unfold Sh at h; rw [hu] at h; exact h
theorem arg_one {t : TypeId} (h : aggT Try.prog t = some false) (p : PC) : argAV Try.prog t [p] = .c p.ac := by
  unfold argAV; rw [h]
theorem arg_agg {t : TypeId} (h : aggT Try.prog t = some true) (l : List PC) : argAV Try.prog t l = .agg (l.map PC.ac) := by
  unfold argAV; rw [h]
end Go.Proofs.Ytalnfojlmkebnaa.AI
