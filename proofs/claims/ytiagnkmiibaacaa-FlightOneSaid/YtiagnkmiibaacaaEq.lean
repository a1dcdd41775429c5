/- '==' of the structs of a flight, as one Bool. Conditions: none. -/
import Derived.Test.YtiagnkmiibaacaaSt
import Derived.Laws.StructEq
namespace Go.Proofs.Ytiagnkmiibaacaa
open Go.RowKit
section
variable {P : Program} {d : Nat} {xs ys : Array Value} {f : Field} {fs : List Field} {a b : Value} {r s : Bool} {w : World}
theorem fieldsOne (hn : (f.name == "_") = false) (ha : (part f.type xs f.offset).run P w = .ok a w) (hb : (part f.type ys f.offset).run P w = .ok b w) (he : (Op.equalIn d f.type a b).run P w = .ok r w) : (Op.eqFields d xs ys [f]).run P w = .ok r w := by
  have hn' : f.name ≠ "_" := by simpa using hn
  simp only [Op.eqFields, if_pos hn', Sem.run_bind, ha, hb, he, Result.andThen_ok]
  cases r <;> simp
theorem fieldsCons (hn : (f.name == "_") = false) (ha : (part f.type xs f.offset).run P w = .ok a w) (hb : (part f.type ys f.offset).run P w = .ok b w) (he : (Op.equalIn d f.type a b).run P w = .ok r w) (hr : (Op.eqFields d xs ys fs).run P w = .ok s w) : (Op.eqFields d xs ys (f :: fs)).run P w = .ok (r && s) w := by
  have hn' : f.name ≠ "_" := by simpa using hn
  rw [Op.eqFields]
  simp only [if_pos hn', Sem.run_bind, ha, hb, he, Result.andThen_ok]
  cases r
  · simp
  · simpa using hr
theorem structOf {t : TypeId} {fs : Array Field} (hu : P.underlying t = some (.struct fs)) (hp : P.stoodInHeld t = false) (h : (Op.eqFields d xs ys fs.toList).run P w = .ok r w) : (Op.equalIn (d + 1) t (.agg xs) (.agg ys)).run P w = .ok r w := by
  have hf : P.fieldsOf t = fs := by simp [Program.fieldsOf, hu]
  rw [run_equalIn_struct (P := P) w d t xs ys (by rw [hf]; exact hu) hp, hf]
  exact h
end
theorem eqSpan (d : Nat) (w : World) (x0 y0 x1 y1 : Int) : (Op.equalIn (d + 2) 24 (.agg #[.int .i64 x0, .int .i64 x1]) (.agg #[.int .i64 y0, .int .i64 y1])).run Try.prog w = .ok (x0 == y0 && (x1 == y1)) w := by
  refine structOf Try.underlying24 (by kernel_rfl) ?_
  refine fieldsCons (by rfl) (by go_simp; rfl) (by go_simp; rfl) (by go_simp) ?_
  exact fieldsOne (by rfl) (by go_simp; rfl) (by go_simp; rfl) (by go_simp)
theorem eqTag (d : Nat) (w : World) (x0 y0 : ByteArray) (x1 y1 : Bool) : (Op.equalIn (d + 2) 26 (.agg #[.string x0, .bool x1]) (.agg #[.string y0, .bool y1])).run Try.prog w = .ok (x0.toList == y0.toList && (x1 == y1)) w := by
  refine structOf Try.underlying26 (by kernel_rfl) ?_
  refine fieldsCons (by rfl) (by go_simp; rfl) (by go_simp; rfl) (by go_simp) ?_
  exact fieldsOne (by rfl) (by go_simp; rfl) (by go_simp; rfl) (by go_simp)
def fetB (o o' : ByteArray) (a a' b b' : Int) (s s' : ByteArray) (k k' : Bool) (t t' : ByteArray) (l l' : Bool) : Bool :=
  o.toList == o'.toList && ((a == a' && (b == b')) && ((s.toList == s'.toList && (k == k')) && (t.toList == t'.toList && (l == l'))))
theorem eqFetch (d : Nat) (w : World) (o o' : ByteArray) (a a' b b' : Int) (s s' : ByteArray) (k k' : Bool) (t t' : ByteArray) (l l' : Bool) :
    (Op.equalIn (d + 4) 28 (.agg #[.string o, .int .i64 a, .int .i64 b, .string s, .bool k, .string t, .bool l]) (.agg #[.string o', .int .i64 a', .int .i64 b', .string s', .bool k', .string t', .bool l'])).run Try.prog w
      = .ok (fetB o o' a a' b b' s s' k k' t t' l l') w := by
  unfold fetB
  refine structOf Try.underlying28 (by kernel_rfl) ?_
  refine fieldsCons (by rfl) (by go_simp; rfl) (by go_simp; rfl) (by go_simp) ?_
  refine fieldsCons (by rfl) (by go_simp) (by go_simp) (eqSpan _ _ _ _ _ _) ?_
  refine fieldsCons (by rfl) (by go_simp) (by go_simp) (eqTag _ _ _ _ _ _) ?_
  exact fieldsOne (by rfl) (by go_simp) (by go_simp) (eqTag _ _ _ _ _ _)
/-- are two flights one? -/
def flB (f g : Fl) : Bool :=
  f.id == g.id && (fetB f.obj g.obj f.fr g.fr f.upto g.upto f.mt g.mt f.mw g.mw f.nt g.nt f.nw g.nw && (f.entry == g.entry && (f.said == g.said && (f.moment == g.moment && (f.gen == g.gen && (f.at_ == g.at_ && (f.heard == g.heard)))))))
theorem eqFl (d : Nat) (w : World) (f g : Fl) : (Op.equalIn (d + 6) 30 (.agg (cF f)) (.agg (cF g))).run Try.prog w = .ok (flB f g) w := by
  unfold flB
  refine structOf Try.underlying30 (by kernel_rfl) ?_
  refine fieldsCons (by rfl) (by go_simp; rfl) (by go_simp; rfl) (by go_simp) ?_
  refine fieldsCons (by rfl) (by go_simp) (by go_simp) (eqFetch _ _ _ _ _ _ _ _ _ _ _ _ _ _ _ _) ?_
  refine fieldsCons (by rfl) (by go_simp; rfl) (by go_simp; rfl) (by go_simp) ?_
  refine fieldsCons (by rfl) (by go_simp; rfl) (by go_simp; rfl) (by go_simp) ?_
  refine fieldsCons (by rfl) (by go_simp; rfl) (by go_simp; rfl) (by go_simp) ?_
  refine fieldsCons (by rfl) (by go_simp; rfl) (by go_simp; rfl) (by go_simp) ?_
  refine fieldsCons (by rfl) (by go_simp; rfl) (by go_simp; rfl) (by go_simp) ?_
  exact fieldsOne (by rfl) (by go_simp; rfl) (by go_simp; rfl) (by go_simp)
end Go.Proofs.Ytiagnkmiibaacaa
