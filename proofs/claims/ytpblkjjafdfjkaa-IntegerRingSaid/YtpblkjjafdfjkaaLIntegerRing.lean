/- The law IntegerRing as a contract over data. -/
import Derived.Test.YtpblkjjafdfjkaaPK
import Derived.Test.YtpblkjjafdfjkaaM1
namespace Go.Proofs.Ytpblkjjafdfjkaa.V
open Go.RowKit
set_option linter.unusedVariables false
set_option linter.unusedSimpArgs false
theorem law_IntegerRing {s t u : Bool} {l m n : List Int} (hl : Dig l) (hm : Dig m) (hn : Dig n) : Ct Try.prog 3 [dI (s, l), dI (t, m), dI (u, n)] (.val (.bool true)) := by
  by_cases cl : l.length ≤ 10
  · by_cases cm : m.length ≤ 10
    · by_cases cn : n.length ≤ 10
      · have gl : Mg 10 (iv s l) := .iv hl cl
        have gm : Mg 10 (iv t m) := .iv hm cm
        have gn : Mg 10 (iv u n) := .iv hn cn
        have sl := sm10 hl cl
        have sm := sm10 hm cm
        have sn := sm10 hn cn
        have hp := p_ring_0 s t u l m n
        simp only [iv_dg] at hp
        refine ct hp mixed LSok.nil ?_ ?_
        · refine ⟨trivial, by simpa using cl, trivial, by simpa using cm, trivial, by simpa using cn, trivial, ⟨sl, sm⟩, ⟨sm, sl⟩, ((gl.add gm).ok (by omega)).2, ?_, ⟨sl, sm⟩, ⟨sm, sl⟩, ((gl.mul gm).ok (by omega)).2, ?_,
            ⟨sl, sm⟩, ⟨(gl.add gm).sm (by omega), sn⟩, ⟨sm, sn⟩, ⟨sl, (gm.add gn).sm (by omega)⟩, (((gl.add gm).add (gn.mono (by omega))).ok (by omega)).2, ?_,
            ⟨sl, sm⟩, ⟨(gl.mul gm).sm (by omega), sn⟩, ⟨sm, sn⟩, ⟨sl, (gm.mul gn).sm (by omega)⟩, (((gl.mul gm).mul gn).ok (by omega)).2, ?_,
            ⟨sm, sn⟩, ⟨sl, (gm.add gn).sm (by omega)⟩, ⟨sl, sm⟩, ⟨sl, sn⟩, ⟨(gl.mul gm).sm (by omega), (gl.mul gn).sm (by omega)⟩, ((gl.mul (gm.add gn)).ok (by omega)).2, ?_,
            sl.ok, ⟨sl, gl.neg.sm (by omega)⟩, (gl.add gl.neg).ok (by omega), trivial⟩
          · rw [Int.add_comm (iv s l)]; simp
          · rw [Int.mul_comm (iv s l)]; simp
          · rw [Int.add_assoc]; simp
          · rw [Int.mul_assoc]; simp
          · rw [Int.mul_add]; simp
        · rw [Int.add_right_neg]; rfl
      · exact ct (p_ring_3 s t u l m n) mixed LSok.nil ⟨trivial, by simpa using cl, trivial, by simpa using cm, trivial, by simpa using cn, trivial, trivial⟩ rfl
    · exact ct (p_ring_2 s t u l m n) mixed LSok.nil ⟨trivial, by simpa using cl, trivial, by simpa using cm, trivial, trivial⟩ rfl
  · exact ct (p_ring_1 s t u l m n) mixed LSok.nil ⟨trivial, by simpa using cl, trivial, trivial⟩ rfl
end Go.Proofs.Ytpblkjjafdfjkaa.V
