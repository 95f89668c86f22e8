import Derived.Test.YtcfnliodgoenkaaT1
import Derived.Test.YtcfnliodgoenkaaT2
