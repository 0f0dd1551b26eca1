/-
  Gossip: Seen.
-/
import Derived.Test.YtpcppphdbalogaaGe
import Derived.Deep.MidRow
namespace Go.Proofs.Ytpcppphdbalogaa
open Go.RowKit Go.Sort

theorem size36 : (Try.prog.info? 36).map (·.size) = some 32 := by kernel_rfl
/-- a new block that holds an array of bytes reads as it. -/
theorem load36 {w : World} {b : Nat} {zs : List Int} (hz : zs.length = 32) (hb : Blk w b 36 (zs.map (Value.int .u8)).toArray) : (Instr.loadAt 36 (.pointer (some ⟨b, 0, none⟩))).run Try.prog w = .ok (hv zs) w := by
  refine run_loadAt_mid w b 0 36 (zs.map (Value.int .u8)) _ (fun j v h => ?_) Try.underlying36 rfl ?_
  · rw [hb.cell]
    simpa using h
  · rw [size36]; simp [hz]

theorem quiet_load {P : Program} {o : Oper} {a : Act} {C : World → Prop} {w : World} (t : TypeId) (x : Operand) (addr v : Value) (ho : o.op = .load t x) (hx : a.eval x = addr) (hl : (Instr.loadAt t addr).run P w = .ok v w) : o.quietAt P a C w v := by
  unfold Oper.quietAt execOp
  simp [ho, hx, hl, Oper.quietUpon, Result.andThen]

theorem seen_any (g d tb N m : Nat) (me fan s : Int) (T : List Int → Bool) (zs : List Int) (w : World) (h : Gos w g d tb N m me fan s T) (hz : IsH zs) :
    Calls Try.prog 15 #[.pointer (some ⟨g, 0, none⟩), hv zs] w fun e w' => e = .returned (.bool (T zs)) ∧ Below w.heap.size w w' := by
  have hc4 := (gos_cells h.blk).2.2.2.2
  have hglt := h.blk.lt
  have hL : ∀ nq, (Instr.loadAt 36 (.pointer (some ⟨w.heap.size, 0, none⟩))).run Try.prog ((w.alloc (.cells (zs.map (Value.int .u8)).toArray 36)).drewN nq) = .ok (hv zs) ((w.alloc (.cells (zs.map (Value.int .u8)).toArray 36)).drewN nq) :=
    fun nq => load36 hz.1 ((Blk.new w 36 _).drewN nq)
  have hK : ∀ nq, (Instr.lookup 55 (.map (some tb)) (hv zs) false).run Try.prog ((w.alloc (.cells (zs.map (Value.int .u8)).toArray 36)).drewN nq) = .ok (.bool (T zs)) ((w.alloc (.cells (zs.map (Value.int .u8)).toArray 36)).drewN nq) :=
    fun nq => ((h.tld.kept (World.grownBy_alloc w _ none) (by simp)).drewN nq).look hz
  have hB : Below w.heap.size w (w.alloc (.cells (zs.map (Value.int .u8)).toArray 36)) := (Below.refl _ w).alloc (Nat.le_refl _) _
  have HB := Lib.hid hB
  clear hB h
  have hcs : hv zs = .agg (zs.map (Value.int .u8)).toArray := rfl
  generalize T zs = tz at hK
  obtain ⟨cs, hcs2⟩ : ∃ cs, (zs.map (Value.int .u8)).toArray = cs := ⟨_, rfl⟩
  rw [hcs, hcs2] at hL hK
  rw [hcs, hcs2]
  rw [hcs2] at HB
  clear hcs hcs2 hz
  go_enter Try.func15, Try.ntmps15
  go_wp2_with fail
  refine wp_region_quiet_lit (by kernel_rfl) (by kernel_rfl) ?_
  iterate 7 (quiet_step (fail))
  refine wpQuiet_step (fun K hK => ?_)
  rw [if_pos (by rfl)]
  refine ⟨.agg cs, fun w' hw' => ?_, ?_⟩
  · obtain ⟨nq, rfl⟩ := hw'
    exact quiet_load 36 _ _ _ rfl rfl (hL nq)
  go_simp
  refine hK _ ?_
  clear hK K hL
  repeat (quiet_step (fail))
  refine wpQuiet_nil ?_
  intro _ hw'
  obtain ⟨nq, hw''⟩ := hw'
  subst hw''
  go_wp2
  go_ret
  exact ⟨rfl, below_dN HB.out _⟩
end Go.Proofs.Ytpcppphdbalogaa
