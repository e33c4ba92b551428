/- The letters of skills, by the abstract machine; conditions: none. -/
import Derived.Test.YtggagmafkdhjcaaGreatDoorAbsX
import Derived.Test.YtggagmafkdhjcaaGreatDoorLexA
import Derived.Test.YtggagmafkdhjcaaGreatDoorRnP
set_option linter.unusedVariables false
set_option linter.unusedSimpArgs false
namespace Go.Proofs.YtggagmafkdhjcaaGreatDoor
open Go Go.RowKit
set_option maxRecDepth 10000
variable {G : Nat → Option (List Value)}
def letS : ByteArray := ⟨#[115, 101, 105, 104, 116]⟩
def bitS (n : Int) (i : Nat) : Bool := bits .and .i64 (n / 2 ^ i) 1 == 1
def preS (n : Int) : Nat → ByteArray
  | 0 => ⟨#[]⟩
  | i + 1 => if bitS n i = true then preS n i ++ letS.extract i (i + 1) else preS n i
theorem preS_size (n : Int) : ∀ i, (preS n i).size ≤ 5 * i
  | 0 => Nat.le_refl _
  | i + 1 => by
    have ih := preS_size n i
    rw [preS]
    split
    · rw [ByteArray.size_append, ByteArray.size_extract]
      have : letS.size = 5 := rfl
      omega
    · omega
def skillsS (n : Int) : ByteArray := if strEq (preS n 5) ⟨#[]⟩ = true then ⟨#[45]⟩ else preS n 5
theorem skills_A (n : Int) : ACalls Tryz.prog G 30 [.v (.int .i64 n)] [] (.v (.string (skillsS n))) [] := by
  refine acalls_of tbOk (enter_of Tryz.func30 (by kernel_rfl) rfl) Tryz.func30 rfl _ Tryz.ntmps30 (Nat.le_of_ble_eq_true rfl) fun X hX => ?_
  subst hX
  repeat (first | ((with_reducible refine k_move ?_); refine m_move rfl ?_) | ((with_reducible refine k_assign ?_); refine m_assign rfl ?_)  | refine e_nrm ?_ | refine x_none rfl ?_ | with_reducible (first | refine q_then ?_ | refine awp_seq ?_ | refine awp_block ?_) | ((with_reducible refine w_region ?_ ?_); kernel_rfl))
  refine awp_loop (ι := Nat) (fun i => i ≤ 5) (fun i => 5 - i) (fun v i => [(0, .v (.int .i64 n)), (3, .v (.string (preS n i))), (5, .v (.int .i64 (i : Nat)))]) (fun v i => []) ?_ ?_
  · exact ⟨0, Nat.zero_le _, trivial, ⟨rfl, rfl, rfl, trivial⟩, trivial⟩
  rintro v i hi
  repeat (first | ((with_reducible refine k_bin ?_); refine m_binI rfl rfl rfl ?_)  | refine e_nrm ?_ | refine x_none rfl ?_ | with_reducible (first | refine q_then ?_ | refine awp_seq ?_) | ((with_reducible refine w_region ?_ ?_); kernel_rfl))
  refine w_cond rfl (fun h => ?_) (fun h => ?_)
  · have hlt : i < 5 := by simp at h; omega
    have hb64 : (i : Int) ≤ IntKind.i64.bits := by show (i : Int) ≤ 64; omega
    have hsh : 0 ≤ (i : Int) ∧ (i : Int) ≤ IntKind.i64.bits := ⟨by omega, hb64⟩
    have hsz : ((⟨#[115, 101, 105, 104, 116]⟩ : ByteArray).size : Int) = 5 := rfl
    cases hbit : bitS n i
    · have p1 : (bits .and .i64 (n / 2 ^ (i : Int).toNat) 1 == 1) = false := by rw [Int.toNat_natCast]; exact hbit
      have hn : preS n (i + 1) = preS n i := by rw [preS, if_neg (by rw [hbit]; decide)]
      repeat (first | ((with_reducible refine k_move ?_); refine m_move rfl ?_) | ((with_reducible refine k_assign ?_); refine m_assign rfl ?_)  | refine e_nrm ?_ | refine x_none rfl ?_ | with_reducible (first | refine q_then ?_ | refine awp_seq ?_ | refine awp_block ?_ | refine awp_skip ?_) | ((with_reducible refine w_region ?_ ?_); kernel_rfl))
      (with_reducible refine k_bin ?_)
      refine x_shr rfl rfl hsh ?_
      repeat (first | ((with_reducible refine k_move ?_); refine m_move rfl ?_) | ((with_reducible refine k_bin ?_); (first | refine x_add_in rfl rfl (by omega) ?_ | refine m_binI rfl rfl rfl ?_))  | refine e_nrm ?_ | refine x_none rfl ?_ | with_reducible (first | refine q_then ?_ | refine q_block ?_ | refine awp_skip ?_) | ((with_reducible refine w_region ?_ ?_); kernel_rfl) | refine w_cond_f rfl (by first | rfl | assumption) ?_)
      exact ⟨i + 1, by show i + 1 ≤ 5; omega, by show 5 - (i + 1) < 5 - i; omega, ⟨rfl, congrArg (fun s : ByteArray => AV.v (.string s)) hn.symm, rfl, trivial⟩, trivial⟩
    · have p1 : (bits .and .i64 (n / 2 ^ (i : Int).toNat) 1 == 1) = true := by rw [Int.toNat_natCast]; exact hbit
      have hn : preS n (i + 1) = preS n i ++ (⟨#[115, 101, 105, 104, 116]⟩ : ByteArray).extract (i : Int).toNat ((i : Int) + 1).toNat := by
        rw [preS, if_pos hbit, Int.toNat_natCast, show ((i : Int) + 1).toNat = i + 1 by omega]
        rfl
      have hadd : (preS n i).size + ((⟨#[115, 101, 105, 104, 116]⟩ : ByteArray).extract (i : Int).toNat ((i : Int) + 1).toNat).size ≤ 9223372036854775807 := by
        have h1 := preS_size n i
        have h2 : ((⟨#[115, 101, 105, 104, 116]⟩ : ByteArray).extract (i : Int).toNat ((i : Int) + 1).toNat).size ≤ 5 := by
          rw [ByteArray.size_extract]
          show min ((i : Int) + 1).toNat 5 - _ ≤ 5
          omega
        omega
      repeat (first | ((with_reducible refine k_move ?_); refine m_move rfl ?_) | ((with_reducible refine k_assign ?_); refine m_assign rfl ?_)  | refine e_nrm ?_ | refine x_none rfl ?_ | with_reducible (first | refine q_then ?_ | refine awp_seq ?_ | refine awp_block ?_ | refine awp_skip ?_) | ((with_reducible refine w_region ?_ ?_); kernel_rfl))
      (with_reducible refine k_bin ?_)
      refine x_shr rfl rfl hsh ?_
      repeat (first | ((with_reducible refine k_move ?_); refine m_move rfl ?_) | ((with_reducible refine k_slice ?_); refine x_sliceS (by exact Tryz.underlying9) rfl rfl rfl (by refine ⟨?_, ?_, ?_⟩ <;> omega) ?_) | ((with_reducible refine k_bin ?_); (first | refine x_add_in rfl rfl (by omega) ?_ | refine m_binI rfl rfl rfl ?_))  | refine e_nrm ?_ | refine x_none rfl ?_ | with_reducible refine q_then ?_ | ((with_reducible refine w_region ?_ ?_); kernel_rfl) | refine w_cond_t rfl (by first | rfl | assumption) ?_)
      (with_reducible refine k_bin ?_)
      refine x_add_s rfl rfl hadd ?_
      repeat (first | ((with_reducible refine k_move ?_); refine m_move rfl ?_) | ((with_reducible refine k_assign ?_); refine m_assign rfl ?_) | ((with_reducible refine k_bin ?_); refine x_add_in rfl rfl (by omega) ?_)  | refine e_nrm ?_ | refine x_none rfl ?_ | with_reducible (first | refine q_then ?_ | refine q_block ?_) | ((with_reducible refine w_region ?_ ?_); kernel_rfl))
      exact ⟨i + 1, by show i + 1 ≤ 5; omega, by show 5 - (i + 1) < 5 - i; omega, ⟨rfl, congrArg (fun s : ByteArray => AV.v (.string s)) hn.symm, rfl, trivial⟩, trivial⟩
  · have hie : i = 5 := by simp at h; omega
    have hs : skillsS n = if strEq (preS n i) ⟨#[]⟩ = true then ⟨#[45]⟩ else preS n i := by
      rw [hie]
      unfold skillsS
      with_reducible rfl
    rw [hs]
    clear hs hie
    generalize preS n i = s0
    cases he : strEq s0 ⟨#[]⟩
    · repeat (first | ((with_reducible refine k_move ?_); refine m_move rfl ?_) | ((with_reducible refine k_assign ?_); refine m_assign rfl ?_) | ((with_reducible refine k_bin ?_); refine m_binS rfl rfl rfl ?_)  | refine e_nrm ?_ | refine x_none rfl ?_ | with_reducible (first | refine q_then ?_ | refine q_then_exit ?_ | refine awp_seq ?_ | refine awp_skip ?_ | refine awp_exit ?_ | refine awp_ret ?_) | ((with_reducible refine q_block_exit ?_ ?_); rfl) | ((with_reducible refine w_region ?_ ?_); kernel_rfl) | refine w_cond_f rfl (by first | rfl | assumption) ?_)
      refine ret_v (by first | exact .inr rfl | exact .inl rfl) rfl rfl ?_
      rfl
    · repeat (first | ((with_reducible refine k_move ?_); refine m_move rfl ?_) | ((with_reducible refine k_assign ?_); refine m_assign rfl ?_) | ((with_reducible refine k_bin ?_); refine m_binS rfl rfl rfl ?_)  | refine e_nrm ?_ | refine x_none rfl ?_ | with_reducible (first | refine q_then ?_ | refine q_then_exit ?_ | refine q_then_ret ?_ | refine awp_seq ?_ | refine awp_exit ?_ | refine awp_ret ?_) | ((with_reducible refine q_block_exit ?_ ?_); rfl) | ((with_reducible refine w_region ?_ ?_); kernel_rfl) | refine w_cond_t rfl (by first | rfl | assumption) ?_)
      refine ret_v (by first | exact .inr rfl | exact .inl rfl) rfl rfl ?_
      rfl
theorem rletters_A (n : Int) : ACalls Tryz.prog G 38 [.v (.int .i64 n)] [] (.v (.string (skillsS n))) [] := by
  refine acalls_of tbOk (enter_of Tryz.func38 (by kernel_rfl) rfl) Tryz.func38 rfl _ Tryz.ntmps38 (Nat.le_of_ble_eq_true rfl) fun X hX => ?_
  subst hX
  repeat (first | ((with_reducible refine k_assign ?_); refine m_assign rfl ?_)  | refine e_nrm ?_ | refine x_none rfl ?_ | with_reducible (first | refine q_then ?_ | refine awp_seq ?_ | refine awp_block ?_) | ((with_reducible refine w_region ?_ ?_); kernel_rfl))
  refine awp_loop (ι := Nat) (fun i => i ≤ 5) (fun i => 5 - i) (fun v i => [(0, .v (.int .i64 n)), (3, .v (.string (preS n i))), (4, .v (.int .i64 (i : Nat)))]) (fun v i => []) ?_ ?_
  · exact ⟨0, Nat.zero_le _, trivial, ⟨rfl, rfl, rfl, trivial⟩, trivial⟩
  rintro v i hi
  repeat (first | ((with_reducible refine k_move ?_); refine m_move rfl ?_) | ((with_reducible refine k_bin ?_); refine m_binI rfl rfl rfl ?_)  | refine e_nrm ?_ | refine x_none rfl ?_ | with_reducible (first | refine q_then ?_ | refine awp_seq ?_) | ((with_reducible refine w_region ?_ ?_); kernel_rfl))
  refine w_cond rfl (fun h => ?_) (fun h => ?_)
  · have hlt : i < 5 := by simp at h; omega
    have hb64 : (i : Int) ≤ IntKind.i64.bits := by show (i : Int) ≤ 64; omega
    have hsh : 0 ≤ (i : Int) ∧ (i : Int) ≤ IntKind.i64.bits := ⟨by omega, hb64⟩
    have hsz : ((⟨#[115, 101, 105, 104, 116]⟩ : ByteArray).size : Int) = 5 := rfl
    cases hbit : bitS n i
    · have p1 : (bits .and .i64 (n / 2 ^ (i : Int).toNat) 1 == 1) = false := by rw [Int.toNat_natCast]; exact hbit
      have hn : preS n (i + 1) = preS n i := by rw [preS, if_neg (by rw [hbit]; decide)]
      repeat (first | ((with_reducible refine k_move ?_); refine m_move rfl ?_) | ((with_reducible refine k_convert ?_); refine x_conv_in tbOk rfl rfl rfl (by first | assumption | exact wrap_u64_in (by omega) | exact wrap_i64_in (by omega) | exact wrap_u8_in (by omega)) ?_)  | refine x_none rfl ?_ | with_reducible (first | refine q_then ?_ | refine awp_seq ?_ | refine awp_block ?_ | refine awp_skip ?_) | ((with_reducible refine w_region ?_ ?_); kernel_rfl))
      (with_reducible refine k_bin ?_)
      refine x_shr rfl rfl hsh ?_
      repeat (first | ((with_reducible refine k_move ?_); refine m_move rfl ?_) | ((with_reducible refine k_assign ?_); refine m_assign rfl ?_) | ((with_reducible refine k_bin ?_); (first | refine x_add_in rfl rfl (by omega) ?_ | refine m_binI rfl rfl rfl ?_))  | refine e_nrm ?_ | refine x_none rfl ?_ | with_reducible (first | refine q_then ?_ | refine q_block ?_ | refine awp_skip ?_) | ((with_reducible refine w_region ?_ ?_); kernel_rfl) | refine w_cond_f rfl (by first | rfl | assumption) ?_)
      exact ⟨i + 1, by show i + 1 ≤ 5; omega, by show 5 - (i + 1) < 5 - i; omega, ⟨rfl, congrArg (fun s : ByteArray => AV.v (.string s)) hn.symm, rfl, trivial⟩, trivial⟩
    · have p1 : (bits .and .i64 (n / 2 ^ (i : Int).toNat) 1 == 1) = true := by rw [Int.toNat_natCast]; exact hbit
      have hn : preS n (i + 1) = preS n i ++ (⟨#[115, 101, 105, 104, 116]⟩ : ByteArray).extract (i : Int).toNat ((i : Int) + 1).toNat := by
        rw [preS, if_pos hbit, Int.toNat_natCast, show ((i : Int) + 1).toNat = i + 1 by omega]
        rfl
      have hadd : (preS n i).size + ((⟨#[115, 101, 105, 104, 116]⟩ : ByteArray).extract (i : Int).toNat ((i : Int) + 1).toNat).size ≤ 9223372036854775807 := by
        have h1 := preS_size n i
        have h2 : ((⟨#[115, 101, 105, 104, 116]⟩ : ByteArray).extract (i : Int).toNat ((i : Int) + 1).toNat).size ≤ 5 := by
          rw [ByteArray.size_extract]
          show min ((i : Int) + 1).toNat 5 - _ ≤ 5
          omega
        omega
      repeat (first | ((with_reducible refine k_move ?_); refine m_move rfl ?_) | ((with_reducible refine k_convert ?_); refine x_conv_in tbOk rfl rfl rfl (by first | assumption | exact wrap_u64_in (by omega) | exact wrap_i64_in (by omega) | exact wrap_u8_in (by omega)) ?_)  | refine x_none rfl ?_ | with_reducible (first | refine q_then ?_ | refine awp_seq ?_ | refine awp_block ?_ | refine awp_skip ?_) | ((with_reducible refine w_region ?_ ?_); kernel_rfl))
      (with_reducible refine k_bin ?_)
      refine x_shr rfl rfl hsh ?_
      repeat (first | ((with_reducible refine k_move ?_); refine m_move rfl ?_) | ((with_reducible refine k_slice ?_); refine x_sliceS (by exact Tryz.underlying9) rfl rfl rfl (by refine ⟨?_, ?_, ?_⟩ <;> omega) ?_) | ((with_reducible refine k_bin ?_); (first | refine x_add_in rfl rfl (by omega) ?_ | refine m_binI rfl rfl rfl ?_))  | refine e_nrm ?_ | refine x_none rfl ?_ | with_reducible refine q_then ?_ | ((with_reducible refine w_region ?_ ?_); kernel_rfl) | refine w_cond_t rfl (by first | rfl | assumption) ?_)
      (with_reducible refine k_bin ?_)
      refine x_add_s rfl rfl hadd ?_
      repeat (first | ((with_reducible refine k_move ?_); refine m_move rfl ?_) | ((with_reducible refine k_assign ?_); refine m_assign rfl ?_) | ((with_reducible refine k_bin ?_); refine x_add_in rfl rfl (by omega) ?_)  | refine e_nrm ?_ | refine x_none rfl ?_ | with_reducible (first | refine q_then ?_ | refine q_block ?_) | ((with_reducible refine w_region ?_ ?_); kernel_rfl))
      exact ⟨i + 1, by show i + 1 ≤ 5; omega, by show 5 - (i + 1) < 5 - i; omega, ⟨rfl, congrArg (fun s : ByteArray => AV.v (.string s)) hn.symm, rfl, trivial⟩, trivial⟩
  · have hie : i = 5 := by simp at h; omega
    have hs : skillsS n = if strEq (preS n i) ⟨#[]⟩ = true then ⟨#[45]⟩ else preS n i := by
      rw [hie]
      unfold skillsS
      with_reducible rfl
    rw [hs]
    clear hs hie
    generalize preS n i = s0
    cases he : strEq s0 ⟨#[]⟩
    · repeat (first | ((with_reducible refine k_move ?_); refine m_move rfl ?_) | ((with_reducible refine k_assign ?_); refine m_assign rfl ?_) | ((with_reducible refine k_bin ?_); refine m_binS rfl rfl rfl ?_)  | refine e_nrm ?_ | refine x_none rfl ?_ | with_reducible (first | refine q_then ?_ | refine q_then_exit ?_ | refine awp_seq ?_ | refine awp_skip ?_ | refine awp_exit ?_ | refine awp_ret ?_) | ((with_reducible refine q_block_exit ?_ ?_); rfl) | ((with_reducible refine w_region ?_ ?_); kernel_rfl) | refine w_cond_f rfl (by first | rfl | assumption) ?_)
      refine ret_v (by first | exact .inr rfl | exact .inl rfl) rfl rfl ?_
      rfl
    · repeat (first | ((with_reducible refine k_move ?_); refine m_move rfl ?_) | ((with_reducible refine k_assign ?_); refine m_assign rfl ?_) | ((with_reducible refine k_bin ?_); refine m_binS rfl rfl rfl ?_)  | refine e_nrm ?_ | refine x_none rfl ?_ | with_reducible (first | refine q_then ?_ | refine q_then_exit ?_ | refine q_then_ret ?_ | refine awp_seq ?_ | refine awp_exit ?_ | refine awp_ret ?_) | ((with_reducible refine q_block_exit ?_ ?_); rfl) | ((with_reducible refine w_region ?_ ?_); kernel_rfl) | refine w_cond_t rfl (by first | rfl | assumption) ?_)
      refine ret_v (by first | exact .inr rfl | exact .inl rfl) rfl rfl ?_
      rfl
end Go.Proofs.YtggagmafkdhjcaaGreatDoor
