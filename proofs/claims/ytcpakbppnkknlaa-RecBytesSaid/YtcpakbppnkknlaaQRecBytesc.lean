-- the last of the chain
import Derived.Test.YtcpakbppnkknlaaQRecBytesc5
