import Derived.Test.YtjngkndiokfibaaPChgBackx0
/- 'few' of chapter 15's statements, at a list that is read. -/
namespace Go.Proofs.Ytjngkndiokfibaa.ChgFew
open Go.RowKit Go.Proofs.YtjngkndiokfibaaW.PrintWords Go.Proofs.YtjngkndiokfibaaW.PrintLast Go.Proofs.YtjngkndiokfibaaW.PrintMore Go.Proofs.Ytjngkndiokfibaa.PChgBack

set_option maxHeartbeats 400000 in
theorem few (l L : List S23) (hL : L = l.take 300) (A : Option Addr) (c : Nat) (w : World) (hc : l.length ≤ c) (hm : l.length ≤ 9223372036854775807) :
    Calls Try.prog 18 #[.slice A l.length c] w fun e w' => e = .returned (.slice A L.length c) ∧ w = w' := by
  subst hL
  by_cases h : 300 < l.length
  · obtain ⟨i0, hi, _⟩ := info_parts info23
    have hcut := cut_to (P := Try.prog) 29 23 .i64 Try.underlying29 hi A l.length c 300 (by omega) (by omega) hc
    have e : (l.take 300).length = 300 := by rw [List.length_take]; omega
    rw [e]
    have h1 : decide (300 < l.length) = true := by simpa using h
    clear e
    go_enter Try.func18, Try.ntmps18
    go_wp2
    go_ret
    exact ⟨rfl, rfl⟩
  · have e : (l.take 300).length = l.length := by rw [List.length_take]; omega
    rw [e]
    have h1 : decide (300 < l.length) = false := by simpa using h
    clear e
    go_enter Try.func18, Try.ntmps18
    go_wp2
    go_ret
    exact ⟨rfl, rfl⟩
end Go.Proofs.Ytjngkndiokfibaa.ChgFew
