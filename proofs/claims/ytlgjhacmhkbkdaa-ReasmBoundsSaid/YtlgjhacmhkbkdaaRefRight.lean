/- palanquinref05.Right. Its walk's lines were printed by genright.py. -/
import Derived.Test.YtlgjhacmhkbkdaaRefA
namespace Go.Proofs.Ytlgjhacmhkbkdaa
open Go.RowKit

def inB (n lo hi : Int) : Bool := decide (lo ≤ n) && decide (n ≤ hi)

theorem rin5_in (n lo hi : Int) (w : World) : Calls Try.prog 69 #[.int .i64 n, .int .i64 lo, .int .i64 hi] w fun e w' => e = .returned (.bool (inB n lo hi)) ∧ w' = w := rin5_any n lo hi w

theorem hdrOk_eq (h : Hdr) : hdrOk h = (inB h.tos 0 255 && (inB h.ttl 0 255 && (inB h.proto 0 255 && (inB h.id 0 65535 && (inB h.off 0 8191 && ((h.src.size == 4) && ((h.dst.size == 4) && (decide (h.opts.size ≤ 40) && (h.opts.size % 4 == 0))))))))) := by
  simp only [hdrOk, allIn, List.all_cons, List.all_nil, inPair, inB, Bool.and_assoc, Bool.true_and, Bool.and_true]

set_option maxRecDepth 100000 in
set_option maxHeartbeats 4000000 in
theorem rright5_any (h : Hdr) (w : World) :
    Calls Try.prog 45 #[hdrV h] w fun e w' => e = .returned (.bool (hdrOk h)) ∧ Fr [] w w' := by
  unfold hdrV hdrCells
  go_enter Try.func45, Try.ntmps45
  cases h0 : inB h.tos 0 255
  · have d0 : inB h.tos 0 255 = false := h0
    have hv := hdrOk_eq h
    rw [h0] at hv
    have HV := Lib.hid hv
    clear hv h0
    go_wp2_with (first | (go_at_call 69; refine (rin5_in _ _ _ _).mono ?_; rintro e w' ⟨rfl, rfl⟩))
    go_ret
    exact ⟨by rw [HV.out]; rfl, (Fr.refl _ _).alloc _⟩
  · have d0 : inB h.tos 0 255 = true := h0
    cases h1 : inB h.ttl 0 255
    · have d1 : inB h.ttl 0 255 = false := h1
      have hv := hdrOk_eq h
      rw [h0, h1] at hv
      have HV := Lib.hid hv
      clear hv h0 h1
      go_wp2_with (first | (go_at_call 69; refine (rin5_in _ _ _ _).mono ?_; rintro e w' ⟨rfl, rfl⟩))
      go_ret
      exact ⟨by rw [HV.out]; rfl, (Fr.refl _ _).alloc _⟩
    · have d1 : inB h.ttl 0 255 = true := h1
      cases h2 : inB h.proto 0 255
      · have d2 : inB h.proto 0 255 = false := h2
        have hv := hdrOk_eq h
        rw [h0, h1, h2] at hv
        have HV := Lib.hid hv
        clear hv h0 h1 h2
        go_wp2_with (first | (go_at_call 69; refine (rin5_in _ _ _ _).mono ?_; rintro e w' ⟨rfl, rfl⟩))
        go_ret
        exact ⟨by rw [HV.out]; rfl, (Fr.refl _ _).alloc _⟩
      · have d2 : inB h.proto 0 255 = true := h2
        cases h3 : inB h.id 0 65535
        · have d3 : inB h.id 0 65535 = false := h3
          have hv := hdrOk_eq h
          rw [h0, h1, h2, h3] at hv
          have HV := Lib.hid hv
          clear hv h0 h1 h2 h3
          go_wp2_with (first | (go_at_call 69; refine (rin5_in _ _ _ _).mono ?_; rintro e w' ⟨rfl, rfl⟩))
          go_ret
          exact ⟨by rw [HV.out]; rfl, (Fr.refl _ _).alloc _⟩
        · have d3 : inB h.id 0 65535 = true := h3
          cases h4 : inB h.off 0 8191
          · have d4 : inB h.off 0 8191 = false := h4
            have hv := hdrOk_eq h
            rw [h0, h1, h2, h3, h4] at hv
            have HV := Lib.hid hv
            clear hv h0 h1 h2 h3 h4
            go_wp2_with (first | (go_at_call 69; refine (rin5_in _ _ _ _).mono ?_; rintro e w' ⟨rfl, rfl⟩))
            go_ret
            exact ⟨by rw [HV.out]; rfl, (Fr.refl _ _).alloc _⟩
          · have d4 : inB h.off 0 8191 = true := h4
            cases h5 : (h.src.size == 4)
            · have d5 : (h.src.size == 4) = false := h5
              have q5 : ((h.src.size : Int) == 4) = false := by simp at h5; first | (simp [h5]; done) | (simp; omega)
              have hv := hdrOk_eq h
              rw [h0, h1, h2, h3, h4, h5] at hv
              have HV := Lib.hid hv
              clear hv h0 h1 h2 h3 h4 h5
              go_wp2_with (first | (go_at_call 69; refine (rin5_in _ _ _ _).mono ?_; rintro e w' ⟨rfl, rfl⟩))
              go_ret
              exact ⟨by rw [HV.out]; rfl, (Fr.refl _ _).alloc _⟩
            · have d5 : (h.src.size == 4) = true := h5
              have q5 : ((h.src.size : Int) == 4) = true := by simp at h5; first | (simp [h5]; done) | (simp; omega)
              cases h6 : (h.dst.size == 4)
              · have d6 : (h.dst.size == 4) = false := h6
                have q6 : ((h.dst.size : Int) == 4) = false := by simp at h6; first | (simp [h6]; done) | (simp; omega)
                have hv := hdrOk_eq h
                rw [h0, h1, h2, h3, h4, h5, h6] at hv
                have HV := Lib.hid hv
                clear hv h0 h1 h2 h3 h4 h5 h6
                go_wp2_with (first | (go_at_call 69; refine (rin5_in _ _ _ _).mono ?_; rintro e w' ⟨rfl, rfl⟩))
                go_ret
                exact ⟨by rw [HV.out]; rfl, (Fr.refl _ _).alloc _⟩
              · have d6 : (h.dst.size == 4) = true := h6
                have q6 : ((h.dst.size : Int) == 4) = true := by simp at h6; first | (simp [h6]; done) | (simp; omega)
                cases h7 : decide (h.opts.size ≤ 40)
                · have d7 : decide (h.opts.size ≤ 40) = false := h7
                  have q7 : decide ((h.opts.size : Int) ≤ 40) = false := by simp at h7; simp; omega
                  have hv := hdrOk_eq h
                  rw [h0, h1, h2, h3, h4, h5, h6, h7] at hv
                  have HV := Lib.hid hv
                  clear hv h0 h1 h2 h3 h4 h5 h6 h7
                  go_wp2_with (first | (go_at_call 69; refine (rin5_in _ _ _ _).mono ?_; rintro e w' ⟨rfl, rfl⟩))
                  go_ret
                  exact ⟨by rw [HV.out]; rfl, (Fr.refl _ _).alloc _⟩
                · have d7 : decide (h.opts.size ≤ 40) = true := h7
                  have q7 : decide ((h.opts.size : Int) ≤ 40) = true := by simp at h7; simp; omega
                  cases h8 : (h.opts.size % 4 == 0)
                  · have d8 : (h.opts.size % 4 == 0) = false := h8
                    have q8 : ((h.opts.size : Int) % 4 == 0) = false := by simp at h8; first | (simp [h8]; done) | (simp; omega)
                    have hv := hdrOk_eq h
                    rw [h0, h1, h2, h3, h4, h5, h6, h7, h8] at hv
                    have HV := Lib.hid hv
                    clear hv h0 h1 h2 h3 h4 h5 h6 h7 h8
                    go_wp2_with (first | (go_at_call 69; refine (rin5_in _ _ _ _).mono ?_; rintro e w' ⟨rfl, rfl⟩))
                    go_ret
                    exact ⟨by rw [HV.out]; rfl, (Fr.refl _ _).alloc _⟩
                  · have d8 : (h.opts.size % 4 == 0) = true := h8
                    have q8 : ((h.opts.size : Int) % 4 == 0) = true := by simp at h8; first | (simp [h8]; done) | (simp; omega)
                    have hv := hdrOk_eq h
                    rw [h0, h1, h2, h3, h4, h5, h6, h7, h8] at hv
                    have HV := Lib.hid hv
                    clear hv h0 h1 h2 h3 h4 h5 h6 h7 h8
                    go_wp2_with (first | (go_at_call 69; refine (rin5_in _ _ _ _).mono ?_; rintro e w' ⟨rfl, rfl⟩))
                    go_ret
                    exact ⟨by rw [HV.out]; rfl, (Fr.refl _ _).alloc _⟩
end Go.Proofs.Ytlgjhacmhkbkdaa
