/- oplog: are two entries the same. -/
import Derived.Test.YtljejfiecaihfaaGreatDoorOBa
import Derived.DeepKeys
namespace Go.Proofs.YtljejfiecaihfaaGreatDoor
open Go
theorem fields3 {fs : List Field} (h : fs.map (fun f => (decide (f.name = "_"), f.type, f.offset)) = [(false, 3, 0), (false, 3, 1), (false, 9, 2)]) :
    ∃ f g k, fs = [f, g, k] ∧ f.name ≠ "_" ∧ g.name ≠ "_" ∧ k.name ≠ "_" ∧ f.type = 3 ∧ g.type = 3 ∧ k.type = 9 ∧ f.offset = 0 ∧ g.offset = 1 ∧ k.offset = 2 := by
  have hl := congrArg List.length h
  rw [List.length_map] at hl
  match fs, hl with
  | [f, g, k], _ =>
    simp only [List.map_cons, List.map_nil, List.cons.injEq, Prod.mk.injEq, and_true, decide_eq_false_iff_not] at h
    exact ⟨f, g, k, rfl, h.1.1, h.2.1.1, h.2.2.1, h.1.2.1, h.2.1.2.1, h.2.2.2.1, h.1.2.2, h.2.1.2.2, h.2.2.2.2⟩
theorem bytes_inj {a b : ByteArray} (h : (a.toList == b.toList) = true) : a = b := by
  have h := eq_of_beq h
  rw [ByteArray.toList_eq, ByteArray.toList_eq] at h
  obtain ⟨⟨a⟩⟩ := a
  obtain ⟨⟨b⟩⟩ := b
  have h : a = b := h
  rw [h]
theorem eqE (w : World) (e1 e2 : Ent) : ∃ r : Bool, (Op.equal 34 e1.val e2.val).run Tryz.prog w = .ok r w ∧ (r = true ↔ e1 = e2) := by
  obtain ⟨c1, k1, t1⟩ := e1
  obtain ⟨c2, k2, t2⟩ := e2
  have h1 : Tryz.prog.underlying 34 = some (.struct (Tryz.prog.fieldsOf 34)) := by kernel_rfl
  have h2 : Tryz.prog.stoodInHeld 34 = false := by kernel_rfl
  have h3 : Tryz.prog.underlying 3 = some (.int .i64) := by kernel_rfl
  have h9 : Tryz.prog.underlying 9 = some .string := by kernel_rfl
  have p3 : Tryz.prog.plainKey 3 = true := by kernel_rfl
  have p9 : Tryz.prog.plainKey 9 = true := by kernel_rfl
  have hf : (Tryz.prog.fieldsOf 34).toList.map (fun f => (decide (f.name = "_"), f.type, f.offset)) = [(false, 3, 0), (false, 3, 1), (false, 9, 2)] := by kernel_rfl
  obtain ⟨f, g, k, hfs, nf, ng, nk, tf, tg, tk, of, og, ok⟩ := fields3 hf
  show ∃ r : Bool, (Op.equalIn (9999 + 1) 34 _ _).run Tryz.prog w = _ ∧ _
  rw [run_equalIn_struct w 9999 34 _ _ h1 h2, hfs]
  have q1 : ∀ (a b : Value) (xs : Array Value), xs = #[a, b] → True := fun _ _ _ _ => trivial
  have e0 : ∀ (c k : Int) (t : ByteArray), (part 3 #[.int .i64 c, .int .i64 k, .string t] 0).run Tryz.prog w = .ok (.int .i64 c) w := fun c k t => run_part_plain w p3 rfl
  have e1 : ∀ (c k : Int) (t : ByteArray), (part 3 #[.int .i64 c, .int .i64 k, .string t] 1).run Tryz.prog w = .ok (.int .i64 k) w := fun c k t => run_part_plain w p3 rfl
  have e2 : ∀ (c k : Int) (t : ByteArray), (part 9 #[.int .i64 c, .int .i64 k, .string t] 2).run Tryz.prog w = .ok (.string t) w := fun c k t => run_part_plain w p9 rfl
  refine ⟨(c1 == c2) && ((k1 == k2) && (t1.toList == t2.toList)), ?_, ?_⟩
  · simp only [Op.eqFields, nf, ng, nk, tf, tg, tk, of, og, ok, ne_eq, not_false_eq_true, if_true, Sem.run_bind, e0, Result.andThen_ok, run_equalIn_int w _ 3 .i64 .i64 _ _ h3]
    cases hc : (c1 == c2)
    · simp
    · cases hk : (k1 == k2)
      · simp [e1, run_equalIn_int w _ 3 .i64 .i64 _ _ h3, hk]
      · cases ht : (t1.toList == t2.toList)
        · simp [e1, e2, run_equalIn_int w _ 3 .i64 .i64 _ _ h3, run_equalIn_string w _ 9 _ _ h9, hk, ht]
        · simp [e1, e2, run_equalIn_int w _ 3 .i64 .i64 _ _ h3, run_equalIn_string w _ 9 _ _ h9, hk, ht]
  · simp only [Bool.and_eq_true, Ent.mk.injEq]
    constructor
    · rintro ⟨a, b, c⟩
      exact ⟨eq_of_beq a, eq_of_beq b, bytes_inj c⟩
    · rintro ⟨rfl, rfl, rfl⟩
      simp
end Go.Proofs.YtljejfiecaihfaaGreatDoor
